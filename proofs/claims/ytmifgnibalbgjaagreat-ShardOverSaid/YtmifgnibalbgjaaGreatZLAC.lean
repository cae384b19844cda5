/- queued. -/
import Derived.Test.YtmifgnibalbgjaaGreatZLI
import Derived.Test.YtmifgnibalbgjaaGreatZOwn
import Derived.Lib.QuietBelow
import Derived.Deep.Cut
import Derived.BigQuiet
import Derived.Test.YtmifgnibalbgjaaGreatZLAA
import Derived.Test.YtmifgnibalbgjaaGreatZLX
namespace Go.Proofs.YtmifgnibalbgjaaGreat
open Go.RowKit Go.Sort
/-- may one not be in a queue? -/
def badQ (hs qs : List Hd) (i : Nat) (z : Hd) : Bool := decide (z.owner < 0) || !modeM z.mode || decide (z.mode ≤ ofH hs z.owner) || decide (0 < ofH (qs.take i) z.owner) || decide (0 < ofH hs z.owner) && (qs.take i).any fun y => ofH hs y.owner == 0
/-- may a queue be? -/
def queuedF (hs qs : List Hd) (i : Nat) : List Hd → Bool
  | [] => true
  | z :: r => !badQ hs qs i z && queuedF hs qs (i + 1) r
def queuedB (hs qs : List Hd) : Bool := queuedF hs qs 0 qs
set_option maxRecDepth 100000 in
set_option maxHeartbeats 8000000 in
theorem queued_any (x : Ln) (hs qs : List Hd) (w : World) (h1 : HdsAt w x.hs.a x.hs.n hs) (h2 : HdsAt w x.qs.a x.qs.n qs) (n1 : x.hs.n ≤ maxLen) (n2 : x.qs.n ≤ 1000000) (n3 : x.qs.n ≤ x.qs.c) :
    Calls Tryz.prog 184 #[.agg #[.string x.key, .slice x.hs.a x.hs.n x.hs.c, .slice x.qs.a x.qs.n x.qs.c]] w fun e w' => e = .returned (.bool (queuedB hs qs)) ∧ Below w.heap.size w w' := by
  obtain ⟨xk, ⟨ha, hn, hc⟩, ⟨qa, qn, qc⟩⟩ := x
  simp only at h1 h2 n1 n2 n3 ⊢
  obtain rfl : qn = qs.length := h2.1
  have H1 := Lib.hid h1
  have H2 := Lib.hid h2
  have HN1 := Lib.hid n1
  have HV : Hid (queuedF hs qs 0 qs = queuedB hs qs) := Lib.hid rfl
  generalize queuedB hs qs = r at *
  clear h1 h2 n1
  go_enter Tryz.func184, Tryz.ntmps184
  go_wp2_with fail
  obtain ⟨w0, hw0⟩ : ∃ w0, w0 = w.alloc (.cells #[.string xk, .slice ha hn hc, .slice qa qs.length qc] 66) := ⟨_, rfl⟩
  have HX : Hid (∀ W, Below w0.heap.size w0 W → W.cell? ⟨w.heap.size, 1, none⟩ = some (.slice ha hn hc) ∧ W.cell? ⟨w.heap.size, 2, none⟩ = some (.slice qa qs.length qc)) := Lib.hid fun W hb => by
    subst hw0
    exact ⟨(hb.cell (by simp only [World.size_alloc]; omega)).trans (by simp [go_sem]), (hb.cell (by simp only [World.size_alloc]; omega)).trans (by simp [go_sem])⟩
  have HB0 : Hid (Below w.heap.size w w0) := Lib.hid (by rw [hw0]; exact bel_new _ _)
  rw [← hw0]
  clear hw0
  generalize w.heap.size = b1 at HX ⊢
  go_loopw [3, 10] (fun v jv wr => ∃ i : Nat, i ≤ qs.length ∧ jv = .int .i64 (i : Nat) ∧ v = .bool ((qs.take i).any fun y => ofH hs y.owner == 0) ∧ Hid (queuedF hs qs i (qs.drop i) = r) ∧ Hid (Below w0.heap.size w0 wr)) (fun _ jv _ => qs.length - (intOf jv).toNat)
  case atStart => exact ⟨0, Nat.zero_le _, rfl, by simp, HV, Lib.hid (Below.refl _ _)⟩
  case round =>
    obtain ⟨i, hi, rfl, rfl, he, HB⟩ := hrel
    clear HV
    by_cases hlt : i < qs.length
    · obtain ⟨gq, oq, rfl, hz⟩ := H2.out.2 i hlt
      obtain ⟨c0, c1⟩ := (hz.below HB0.out).below HB.out
      have hxx := HX.out wr HB.out
      obtain ⟨x1, x2⟩ := hxx
      have HOH := Lib.hid fun W (hb : Below w0.heap.size w0 W) => of_any ha hn hc hs qs[i].owner W (H1.out.below (HB0.out.trans (hb.mono HB0.out.size))) HN1.out
      have HOQ := Lib.hid fun W (hb : Below w0.heap.size w0 W) => of_any (some ⟨gq, oq, none⟩) i qc (qs.take i) qs[i].owner W ((H2.out.below (HB0.out.trans (hb.mono HB0.out.size))).take (by omega)) (by unfold maxLen; omega)
      have he2 := he.out
      rw [List.drop_eq_getElem_cons hlt] at he2
      unfold queuedF at he2
      have HE := Lib.hid he2
      have hpl : ((qs.take (i + 1)).any fun y => ofH hs y.owner == 0) = (((qs.take i).any fun y => ofH hs y.owner == 0) || ofH hs qs[i].owner == 0) := by
        rw [List.take_succ_eq_append_getElem hlt, List.any_append]; simp
      have HPL := Lib.hid hpl
      have hbq : badQ hs qs i qs[i] = (decide (qs[i].owner < 0) || !modeM qs[i].mode || decide (qs[i].mode ≤ ofH hs qs[i].owner) || decide (0 < ofH (qs.take i) qs[i].owner) || decide (0 < ofH hs qs[i].owner) && (qs.take i).any fun y => ofH hs y.owner == 0) := rfl
      have HBQ := Lib.hid hbq
      clear hz he he2 hpl hbq
      generalize badQ hs qs i qs[i] = bad at *
      generalize ofH hs qs[i].owner = vh at *
      generalize ofH (qs.take i) qs[i].owner = vq at *
      generalize hpp : ((qs.take i).any fun y => ofH hs y.owner == 0) = pl at *
      clear hpp
      generalize qs[i] = z at *
      obtain ⟨zo, zm⟩ := z
      simp only at c0 c1 HOH HOQ HBQ
      have x1a := fun oo => ((bel_new wr oo).cell (World.block_lt_of_cell? wr _ x1)).trans x1
      go_wp2_with fail
      refine (HOH.out (wr.alloc (.cells #[.int .i64 zo, .int .i64 zm] 32)) (bel_one HB.out _)).mono ?_
      rintro e w6 ⟨rfl, hb6⟩
      have hb60 := (bel_one HB.out (.cells #[.int .i64 zo, .int .i64 zm] 32)).trans (hb6.mono (bel_one HB.out _).size)
      obtain ⟨y0, y1⟩ := (hdAt_new wr ⟨zo, zm⟩ 32).below hb6
      simp only [Nat.zero_add] at y0 y1
      have HB6 := Lib.hid hb60
      clear hb6 c0 c1 x1 x2 x1a
      generalize wr.heap.size = b5 at *
      have HX6 := HX.out w6 hb60
      obtain ⟨x1, x2⟩ := HX6
      have k1 := cell_regrown x2
      have k2 := cell_regrown y0
      have k3 := cell_regrown y1
      have cM : ∀ d os, Calls Tryz.prog 127 #[.int .i64 zm] (grow (redrawn w6 d) os) fun e w'' => e = .returned (.bool (modeM zm)) ∧ ∃ p : Regrown, w'' = grow (redrawn w6 p.d) p.os := fun d os => Calls.regrown_of ((mode_any zm _).mono fun e w' (h : _ ∧ _) => ⟨h.1, by rw [← h.2]; exact Below.refl _ _⟩)
      have cF : ∀ d os, Calls Tryz.prog 129 #[.slice (some ⟨gq, oq, none⟩) i qc, .int .i64 zo] (grow (redrawn w6 d) os) fun e w'' => e = .returned (.int .i64 vq) ∧ ∃ p : Regrown, w'' = grow (redrawn w6 p.d) p.os := fun d os => Calls.regrown_of (HOQ.out _ (hb60.trans ((below_regrown w6 d os).mono hb60.size)))
      have HGR : Hid (∀ d os, Below w0.heap.size w0 (grow (redrawn w6 d) os)) := Lib.hid fun d os => hb60.trans ((below_regrown w6 d os).mono hb60.size)
      have hmix : Tryz.prog.follows .mixedOrders = true := by kernel_rfl
      have hi1 : (i : Int) ≤ (qc : Int) := by omega
      have hi2 : (0 : Int) ≤ (i : Int) := by omega
      have hi3 : i ≤ qc := by omega
      have HP2 : Hid (((qs.take (i + 1)).any fun y => ofH hs y.owner == 0) = (pl || vh == 0)) := HPL
      clear HOH HOQ HB HPL hb60 HX x1 x2 y0 y1 HB6
      go_upto_region 6 with (fail)
      cases q1 : decide (zo < 0) with
      | true =>
        have HBV : Hid (bad = true) := Lib.hid (by rw [HBQ.out, q1]; simp)
        clear HBQ
        refine wp_region_quiet_below hmix (by kernel_rfl) ?_
        repeat (go_big_quiet_step (first | exact cM _ _ | exact cF _ _))
        refine wpQuiet_nil ?_
        intro _ hw'
        obtain ⟨⟨dq, osq⟩, hw'⟩ := hw'
        subst hw'
        have HW := Lib.hid (HGR.out dq osq)
        clear HGR k1 k2 k3 cM cF
        obtain ⟨w9, hw9⟩ : ∃ w9, w9 = grow (redrawn w6 dq) osq := ⟨_, rfl⟩
        rw [← hw9] at HW ⊢
        clear hw9
        have he3 : Hid (false = r) := Lib.hid (by have := HE.out; rw [HBV.out] at this; exact this)
        clear HE HBV
        go_wp2_with fail
        go_ret
        exact ⟨by rw [← he3.out]; rfl, HB0.out.trans (HW.out.mono HB0.out.size)⟩
      | false =>
        cases q2 : modeM zm with
        | false =>
          have HBV : Hid (bad = true) := Lib.hid (by rw [HBQ.out, q2]; simp)
          rw [q2] at cM
          clear HBQ q2
          refine wp_region_quiet_below hmix (by kernel_rfl) ?_
          repeat (go_big_quiet_step (first | exact cM _ _ | exact cF _ _))
          refine wpQuiet_nil ?_
          intro _ hw'
          obtain ⟨⟨dq, osq⟩, hw'⟩ := hw'
          subst hw'
          have HW := Lib.hid (HGR.out dq osq)
          clear HGR k1 k2 k3 cM cF
          obtain ⟨w9, hw9⟩ : ∃ w9, w9 = grow (redrawn w6 dq) osq := ⟨_, rfl⟩
          rw [← hw9] at HW ⊢
          clear hw9
          have he3 : Hid (false = r) := Lib.hid (by have := HE.out; rw [HBV.out] at this; exact this)
          clear HE HBV
          go_wp2_with fail
          go_ret
          exact ⟨by rw [← he3.out]; rfl, HB0.out.trans (HW.out.mono HB0.out.size)⟩
        | true =>
          rw [q2] at cM
          cases q3 : decide (zm ≤ vh) with
          | true =>
            have HBV : Hid (bad = true) := Lib.hid (by rw [HBQ.out, q3]; simp)
            clear HBQ q2
            refine wp_region_quiet_below hmix (by kernel_rfl) ?_
            repeat (go_big_quiet_step (first | exact cM _ _ | exact cF _ _))
            refine wpQuiet_nil ?_
            intro _ hw'
            obtain ⟨⟨dq, osq⟩, hw'⟩ := hw'
            subst hw'
            have HW := Lib.hid (HGR.out dq osq)
            clear HGR k1 k2 k3 cM cF
            obtain ⟨w9, hw9⟩ : ∃ w9, w9 = grow (redrawn w6 dq) osq := ⟨_, rfl⟩
            rw [← hw9] at HW ⊢
            clear hw9
            have he3 : Hid (false = r) := Lib.hid (by have := HE.out; rw [HBV.out] at this; exact this)
            clear HE HBV
            go_wp2_with fail
            go_ret
            exact ⟨by rw [← he3.out]; rfl, HB0.out.trans (HW.out.mono HB0.out.size)⟩
          | false =>
            cases q4 : decide (0 < vq) with
            | true =>
              have HBV : Hid (bad = true) := Lib.hid (by rw [HBQ.out, q4]; simp)
              clear HBQ q2
              refine wp_region_quiet_below hmix (by kernel_rfl) ?_
              repeat (go_big_quiet_step (first | exact cM _ _ | exact cF _ _))
              refine wpQuiet_nil ?_
              intro _ hw'
              obtain ⟨⟨dq, osq⟩, hw'⟩ := hw'
              subst hw'
              have HW := Lib.hid (HGR.out dq osq)
              clear HGR k1 k2 k3 cM cF
              obtain ⟨w9, hw9⟩ : ∃ w9, w9 = grow (redrawn w6 dq) osq := ⟨_, rfl⟩
              rw [← hw9] at HW ⊢
              clear hw9
              have he3 : Hid (false = r) := Lib.hid (by have := HE.out; rw [HBV.out] at this; exact this)
              clear HE HBV
              go_wp2_with fail
              go_ret
              exact ⟨by rw [← he3.out]; rfl, HB0.out.trans (HW.out.mono HB0.out.size)⟩
            | false =>
              cases q5 : decide (0 < vh) with
              | true =>
                cases pl with
                | true =>
                  have HBV : Hid (bad = true) := Lib.hid (by rw [HBQ.out, q1, q2, q3, q4, q5]; simp)
                  clear HBQ q2
                  refine wp_region_quiet_below hmix (by kernel_rfl) ?_
                  repeat (go_big_quiet_step (first | exact cM _ _ | exact cF _ _))
                  refine wpQuiet_nil ?_
                  intro _ hw'
                  obtain ⟨⟨dq, osq⟩, hw'⟩ := hw'
                  subst hw'
                  have HW := Lib.hid (HGR.out dq osq)
                  clear HGR k1 k2 k3 cM cF
                  obtain ⟨w9, hw9⟩ : ∃ w9, w9 = grow (redrawn w6 dq) osq := ⟨_, rfl⟩
                  rw [← hw9] at HW ⊢
                  clear hw9
                  have he3 : Hid (false = r) := Lib.hid (by have := HE.out; rw [HBV.out] at this; exact this)
                  clear HE HBV
                  go_wp2_with fail
                  go_ret
                  exact ⟨by rw [← he3.out]; rfl, HB0.out.trans (HW.out.mono HB0.out.size)⟩
                | false =>
                  have HBV : Hid (bad = false) := Lib.hid (by rw [HBQ.out, q1, q2, q3, q4, q5]; simp)
                  clear HBQ q2
                  refine wp_region_quiet_below hmix (by kernel_rfl) ?_
                  repeat (go_big_quiet_step (first | exact cM _ _ | exact cF _ _))
                  refine wpQuiet_nil ?_
                  intro _ hw'
                  obtain ⟨⟨dq, osq⟩, hw'⟩ := hw'
                  subst hw'
                  have HW := Lib.hid (HGR.out dq osq)
                  clear HGR k1 k2 k3 cM cF
                  obtain ⟨w9, hw9⟩ : ∃ w9, w9 = grow (redrawn w6 dq) osq := ⟨_, rfl⟩
                  rw [← hw9] at HW ⊢
                  clear hw9
                  have he3 : Hid (queuedF hs qs (i + 1) (qs.drop (i + 1)) = r) := Lib.hid (by have := HE.out; rw [HBV.out] at this; simpa using this)
                  have hp3 : Hid ((vh == 0) = (qs.take (i + 1)).any fun y => ofH hs y.owner == 0) := Lib.hid (by rw [HP2.out]; rfl)
                  clear HE HBV HP2
                  go_wp2_with fail
                  go_roundw
                  case rel => exact ⟨i + 1, by omega, by go_num, by rw [← hp3.out], he3, HW⟩
                  case measure => simp [intOf]; omega
              | false =>
                have HBV : Hid (bad = false) := Lib.hid (by rw [HBQ.out, q1, q2, q3, q4, q5]; simp)
                clear HBQ q2
                cases pl with
                | true =>
                  refine wp_region_quiet_below hmix (by kernel_rfl) ?_
                  repeat (go_big_quiet_step (first | exact cM _ _ | exact cF _ _))
                  refine wpQuiet_nil ?_
                  intro _ hw'
                  obtain ⟨⟨dq, osq⟩, hw'⟩ := hw'
                  subst hw'
                  have HW := Lib.hid (HGR.out dq osq)
                  clear HGR k1 k2 k3 cM cF
                  obtain ⟨w9, hw9⟩ : ∃ w9, w9 = grow (redrawn w6 dq) osq := ⟨_, rfl⟩
                  rw [← hw9] at HW ⊢
                  clear hw9
                  have he3 : Hid (queuedF hs qs (i + 1) (qs.drop (i + 1)) = r) := Lib.hid (by have := HE.out; rw [HBV.out] at this; simpa using this)
                  have hp3 : Hid (true = (qs.take (i + 1)).any fun y => ofH hs y.owner == 0) := Lib.hid (by rw [HP2.out]; rfl)
                  clear HE HBV HP2
                  go_wp2_with fail
                  go_roundw
                  case rel => exact ⟨i + 1, by omega, by go_num, by rw [← hp3.out], he3, HW⟩
                  case measure => simp [intOf]; omega
                | false =>
                  refine wp_region_quiet_below hmix (by kernel_rfl) ?_
                  repeat (go_big_quiet_step (first | exact cM _ _ | exact cF _ _))
                  refine wpQuiet_nil ?_
                  intro _ hw'
                  obtain ⟨⟨dq, osq⟩, hw'⟩ := hw'
                  subst hw'
                  have HW := Lib.hid (HGR.out dq osq)
                  clear HGR k1 k2 k3 cM cF
                  obtain ⟨w9, hw9⟩ : ∃ w9, w9 = grow (redrawn w6 dq) osq := ⟨_, rfl⟩
                  rw [← hw9] at HW ⊢
                  clear hw9
                  have he3 : Hid (queuedF hs qs (i + 1) (qs.drop (i + 1)) = r) := Lib.hid (by have := HE.out; rw [HBV.out] at this; simpa using this)
                  have hp3 : Hid ((vh == 0) = (qs.take (i + 1)).any fun y => ofH hs y.owner == 0) := Lib.hid (by rw [HP2.out]; rfl)
                  clear HE HBV HP2
                  go_wp2_with fail
                  go_roundw
                  case rel => exact ⟨i + 1, by omega, by go_num, by rw [← hp3.out], he3, HW⟩
                  case measure => simp [intOf]; omega
    · obtain rfl : i = qs.length := by omega
      have he2 := he.out
      rw [List.drop_length] at he2
      have HE := Lib.hid (show true = r from he2)
      clear he2
      go_wp2_with fail
      go_ret
      exact ⟨by rw [← HE.out]; rfl, HB0.out.trans (HB.out.mono HB0.out.size)⟩
end Go.Proofs.YtmifgnibalbgjaaGreat
/- right. -/
namespace Go.Proofs.YtmifgnibalbgjaaGreat
open Go.RowKit
/-- may a line be? -/
def rightB (l : Li) : Bool := decide (l.key.size ≤ 16) && decide (0 < l.hs.length + l.qs.length) && heldB l.hs && queuedB l.hs l.qs && !mayH l.hs l.qs
set_option maxRecDepth 100000 in
set_option maxHeartbeats 4000000 in
theorem right_any (x : Ln) (l : Li) (w : World) (hk : x.key = l.key) (h1 : HdsAt w x.hs.a x.hs.n l.hs) (h2 : HdsAt w x.qs.a x.qs.n l.qs) (n1 : x.hs.n ≤ 1000000) (n2 : x.qs.n ≤ 1000000) (n3 : x.qs.n ≤ x.qs.c) :
    Calls Tryz.prog 144 #[.agg #[.string x.key, .slice x.hs.a x.hs.n x.hs.c, .slice x.qs.a x.qs.n x.qs.c]] w fun e w' => e = .returned (.bool (rightB l)) ∧ Below w.heap.size w w' := by
  obtain ⟨xk, ⟨ha, hn, hc⟩, ⟨qa, qn, qc⟩⟩ := x
  obtain ⟨lk, H, Q⟩ := l
  simp only at hk h1 h2 n1 n2 n3 ⊢
  subst hk
  obtain rfl : hn = H.length := h1.1
  obtain rfl : qn = Q.length := h2.1
  have HH := Lib.hid fun W (hb : Below w.heap.size w W) => held_any ha H.length hc H W (h1.below hb) (by unfold maxLen; omega)
  have HQ := Lib.hid fun W (hb : Below w.heap.size w W) => queued_any ⟨xk, ⟨ha, H.length, hc⟩, ⟨qa, Q.length, qc⟩⟩ H Q W (h1.below hb) (h2.below hb) (by show H.length ≤ maxLen; unfold maxLen; omega) n2 n3
  have HM := Lib.hid fun W (hb : Below w.heap.size w W) => may_any ⟨xk, ⟨ha, H.length, hc⟩, ⟨qa, Q.length, qc⟩⟩ H Q W (h1.below hb) (h2.below hb) (by show H.length ≤ maxLen; unfold maxLen; omega) (by show Q.length ≤ maxLen; unfold maxLen; omega)
  simp only at HQ HM
  have HR : Hid (rightB ⟨xk, H, Q⟩ = (decide (xk.size ≤ 16) && decide (0 < H.length + Q.length) && heldB H && queuedB H Q && !mayH H Q)) := Lib.hid rfl
  generalize rightB ⟨xk, H, Q⟩ = r at *
  clear h1 h2
  generalize heldB H = bh at *
  generalize queuedB H Q = bq at *
  generalize mayH H Q = bm at *
  generalize H.length = n at *
  generalize Q.length = m at *
  have hx0 := fun (W : World) (hb : Below (w.alloc (.cells #[.string xk, .slice ha n hc, .slice qa m qc] 66)).heap.size (w.alloc (.cells #[.string xk, .slice ha n hc, .slice qa m qc] 66)) W) =>
    (⟨(hb.cell (by simp only [World.size_alloc]; omega)).trans (by simp [go_sem]), (hb.cell (by simp only [World.size_alloc]; omega)).trans (by simp [go_sem]), (hb.cell (by simp only [World.size_alloc]; omega)).trans (by simp [go_sem])⟩ : W.cell? ⟨w.heap.size, 0, none⟩ = some (.string xk) ∧ W.cell? ⟨w.heap.size, 1, none⟩ = some (.slice ha n hc) ∧ W.cell? ⟨w.heap.size, 2, none⟩ = some (.slice qa m qc))
  have HX := Lib.hid hx0
  have HB0 := Lib.hid (bel_new w (.cells #[.string xk, .slice ha n hc, .slice qa m qc] 66))
  clear hx0
  generalize hsz : xk.size = z at *
  by_cases c1 : z ≤ 16
  · have d1 : (z : Int) ≤ 16 := by omega
    by_cases c2 : 0 < n + m
    · have d2 : (0 : Int) < (n : Int) + (m : Int) := by omega
      go_enter Tryz.func144, Tryz.ntmps144
      go_wp2_with fail
      refine (HH.out _ HB0.out).mono ?_
      rintro e w1 ⟨rfl, hb1⟩
      obtain ⟨x0, x1, x2⟩ := HX.out w1 hb1
      have HB1 := Lib.hid (HB0.out.trans (hb1.mono HB0.out.size))
      cases bh with
      | false =>
        have hr : r = false := by rw [HR.out]; simp
        subst hr
        clear HR HX HQ HM HH hb1
        go_wp2_with fail
        go_ret
        exact ⟨rfl, HB1.out⟩
      | true =>
        have HB2 := Lib.hid hb1
        clear hb1 HH
        go_wp2_with fail
        refine (HQ.out _ HB1.out).mono ?_
        rintro e w2 ⟨rfl, hb2⟩
        have hb20 := HB2.out.trans (hb2.mono HB2.out.size)
        obtain ⟨x0, x1, x2⟩ := HX.out w2 hb20
        have HB3 := Lib.hid (HB1.out.trans (hb2.mono HB1.out.size))
        cases bq with
        | false =>
          have hr : r = false := by rw [HR.out]; simp
          subst hr
          clear HR HX HQ HM hb2 hb20
          go_wp2_with fail
          go_ret
          exact ⟨rfl, HB3.out⟩
        | true =>
          clear HQ hb2 hb20
          go_wp2_with fail
          refine (HM.out _ HB3.out).mono ?_
          rintro e w3 ⟨rfl, hb3⟩
          have HB4 := Lib.hid (HB3.out.trans (hb3.mono HB3.out.size))
          have hr : r = !bm := by rw [HR.out]; simp [c1, c2]
          subst hr
          clear HR HX HM hb3
          go_wp2_with fail
          go_ret
          exact ⟨rfl, HB4.out⟩
    · have d2 : ¬ (0 : Int) < (n : Int) + (m : Int) := by omega
      have hr : r = false := by rw [HR.out]; simp [c2]
      subst hr
      clear HR HX HQ HM HH
      go_enter Tryz.func144, Tryz.ntmps144
      go_wp2_with fail
      go_ret
      exact ⟨rfl, HB0.out⟩
  · have d1 : ¬ (z : Int) ≤ 16 := by omega
    have hr : r = false := by rw [HR.out]; simp [c1]
    subst hr
    clear HR HX HQ HM HH
    go_enter Tryz.func144, Tryz.ntmps144
    go_wp2_with fail
    go_ret
    exact ⟨rfl, HB0.out⟩
end Go.Proofs.YtmifgnibalbgjaaGreat
/- The lock table as plain lists: what a key's line is behind each call; nobody is lost; who waits is blocked. -/
namespace Go.Proofs.YtmifgnibalbgjaaGreat
open Go.RowKit
abbrev Li0 : Li := ⟨ByteArray.empty, [], []⟩
theorem hasL_false {L : List Li} {k : ByteArray} : hasL L k = false ↔ ∀ l ∈ L, l.key ≠ k := by
  unfold hasL; rw [List.any_eq_false]; simp
theorem lineL_no {L : List Li} {k : ByteArray} (h : hasL L k = false) : lineL L k = Li0 := by unfold lineL; rw [h]; rfl
theorem SortL.inj {L : List Li} (hs : SortL L) {a b : Li} (ha : a ∈ L) (hb : b ∈ L) (e : a.key = b.key) : a = b := by
  obtain ⟨i, hi, rfl⟩ := List.getElem_of_mem ha
  obtain ⟨j, hj, rfl⟩ := List.getElem_of_mem hb
  rcases Nat.lt_trichotomy i j with h | h | h
  · have := List.pairwise_iff_getElem.1 hs i j hi hj h; rw [e, ltS_irrefl] at this; cases this
  · subst h; rfl
  · have := List.pairwise_iff_getElem.1 hs j i hj hi h; rw [e, ltS_irrefl] at this; cases this
theorem lineL_inL {L : List Li} (hs : SortL L) {k : ByteArray} (h : hasL L k = true) : lineL L k ∈ L ∧ (lineL L k).key = k := by
  obtain ⟨hl, e⟩ := (hasL_iff hs k).1 h
  unfold lineL
  rw [h, if_pos rfl, List.getElem?_eq_getElem hl, Option.getD_some]
  exact ⟨List.getElem_mem _, e⟩
theorem lineL_eq {L : List Li} (hs : SortL L) {l : Li} (h : l ∈ L) : lineL L l.key = l := by
  have hh : hasL L l.key = true := List.any_eq_true.2 ⟨l, h, by simp⟩
  obtain ⟨h1, h2⟩ := lineL_inL hs hh
  exact hs.inj h1 h h2
theorem lineL_cases {L : List Li} (hs : SortL L) (k : ByteArray) : (lineL L k ∈ L ∧ (lineL L k).key = k) ∨ (hasL L k = false ∧ lineL L k = Li0) := by
  cases h : hasL L k with
  | true => exact .inl (lineL_inL hs h)
  | false => exact .inr ⟨rfl, lineL_no h⟩
/-- another key's line stays. -/
theorem lineL_ask_ne {L : List Li} (h : LOk L) (o : Int) {k k' : ByteArray} (m : Int) (hk : k' ≠ k) : lineL (askL L o k m).2 k' = lineL L k' := by
  have h' := (h.ask o k m).s
  have hmem : ∀ l : Li, l.key = k' → (l ∈ (askL L o k m).2 ↔ l ∈ L) := by
    rintro l rfl
    unfold askL
    split
    · rfl
    · split
      · rename_i hh
        obtain ⟨hl, e⟩ := (hasL_iff h.s k).1 hh
        simp only [List.getElem?_eq_getElem hl, Option.getD_some]
        constructor
        · intro hm
          rcases List.mem_or_eq_of_mem_set hm with hm | rfl
          · exact hm
          · rw [askLi_key, e] at hk; exact absurd rfl hk
        · intro hm
          obtain ⟨j, hj, rfl⟩ := List.getElem_of_mem hm
          refine List.mem_iff_getElem.2 ⟨j, by simpa using hj, ?_⟩
          rw [List.getElem_set, if_neg]
          rintro rfl
          exact hk e
      · constructor
        · intro hm
          rcases List.mem_append.1 hm with hm | hm
          · exact List.mem_of_mem_take hm
          · rcases List.mem_cons.1 hm with rfl | hm
            · exact absurd rfl hk
            · exact List.mem_of_mem_drop hm
        · intro hm
          rw [← List.take_append_drop (posL L k) L] at hm
          rcases List.mem_append.1 hm with hm | hm
          · exact List.mem_append_left _ hm
          · exact List.mem_append_right _ (List.mem_cons_of_mem _ hm)
  cases hh : hasL L k' with
  | true =>
    obtain ⟨h1, h2⟩ := lineL_inL h.s hh
    have := lineL_eq h' ((hmem _ h2).2 h1)
    rwa [h2] at this
  | false =>
    rw [lineL_no hh, lineL_no]
    rw [hasL_false] at hh ⊢
    intro l hl e
    exact hh l ((hmem l e).1 hl) e
/-- the line that is asked for. -/
theorem lineL_ask_eq {L : List Li} (h : LOk L) {o : Int} {k : ByteArray} {m : Int} (h0 : 0 ≤ o) (hk : k.size ≤ 16) (hm : modeM m = true) :
    lineL (askL L o k m).2 k = if hasL L k = true then (askLi (lineL L k) ⟨o, m⟩).2 else ⟨k, [⟨o, m⟩], []⟩ := by
  have h' := (h.ask o k m).s
  have hg : ¬ (o < 0 ∨ 16 < k.size ∨ modeM m = false) := by rw [hm]; simp; omega
  have hv : ∀ l : Li, l.key = k → l ∈ (askL L o k m).2 → lineL (askL L o k m).2 k = l := by
    rintro l rfl hl; exact lineL_eq h' hl
  split
  · rename_i hh
    obtain ⟨h1, h2⟩ := lineL_inL h.s hh
    refine hv _ (by rw [askLi_key, h2]) ?_
    obtain ⟨hl, e⟩ := (hasL_iff h.s k).1 hh
    unfold askL
    rw [if_neg hg, if_pos hh]
    simp only [List.getElem?_eq_getElem hl, Option.getD_some]
    have : lineL L k = L[posL L k] := by unfold lineL; rw [if_pos hh, List.getElem?_eq_getElem hl, Option.getD_some]
    rw [this]
    exact List.mem_iff_getElem.2 ⟨posL L k, by simpa using hl, by simp⟩
  · rename_i hh
    refine hv ⟨k, [⟨o, m⟩], []⟩ rfl ?_
    unfold askL
    rw [if_neg hg, if_neg hh]
    simp
theorem leaveLi0 (o : Int) : (leaveLi Li0 o).2 = Li0 := rfl
/-- a line behind a leaving. -/
theorem lineL_leave {L : List Li} (h : LOk L) (o : Int) (k : ByteArray) : (lineL (leaveL L o).2 k).hs = (leaveLi (lineL L k) o).2.hs ∧ (lineL (leaveL L o).2 k).qs = (leaveLi (lineL L k) o).2.qs := by
  have h' := (h.leave o).s
  rcases lineL_cases h.s k with ⟨h1, h2⟩ | ⟨h1, h2⟩
  · cases he : emptyLi (leaveLi (lineL L k) o).2 with
    | false =>
      have hm : (leaveLi (lineL L k) o).2 ∈ (leaveL L o).2 := List.mem_filter.2 ⟨List.mem_map.2 ⟨_, h1, rfl⟩, by rw [he]; rfl⟩
      have := lineL_eq h' hm
      rw [show (leaveLi (lineL L k) o).2.key = k from h2] at this
      rw [this]; exact ⟨rfl, rfl⟩
    | true =>
      have hno : hasL (leaveL L o).2 k = false := by
        rw [hasL_false]
        rintro l hl rfl
        obtain ⟨hl1, hl2⟩ := List.mem_filter.1 hl
        obtain ⟨x, hx, rfl⟩ := List.mem_map.1 hl1
        have e3 := h.s.inj hx h1 (by rw [h2]; rfl)
        have e4 : emptyLi (leaveLi x o).2 = true := by rw [e3]; exact he
        rw [e4] at hl2; cases hl2
      rw [lineL_no hno]
      have he2 : (leaveLi (lineL L k) o).2.hs.length + (leaveLi (lineL L k) o).2.qs.length = 0 := by simpa [emptyLi] using he
      exact ⟨(List.eq_nil_of_length_eq_zero (by omega)).symm, (List.eq_nil_of_length_eq_zero (by omega)).symm⟩
  · have hno : hasL (leaveL L o).2 k = false := by
      rw [hasL_false] at h1 ⊢
      intro l hl e
      obtain ⟨hl1, -⟩ := List.mem_filter.1 hl
      obtain ⟨x, hx, rfl⟩ := List.mem_map.1 hl1
      exact h1 x hx e
    rw [lineL_no hno, h2]
    exact ⟨rfl, rfl⟩
theorem LiW.nil : LiW [] [] := ⟨List.Pairwise.nil, by simp, by simp, by simp, List.Pairwise.nil, List.Pairwise.nil⟩
/-- of any key. -/
theorem LOk.line {L : List Li} (h : LOk L) (k : ByteArray) : LiW (lineL L k).hs (lineL L k).qs ∧ mayH (lineL L k).hs (lineL L k).qs = false := by
  rcases lineL_cases h.s k with ⟨h1, -⟩ | ⟨-, h2⟩
  · exact ⟨(h.ok _ h1).w, (h.ok _ h1).may⟩
  · rw [h2]; exact ⟨LiW.nil, rfl⟩
/-- the modes of those who were put in. -/
theorem foldl_put_of : ∀ (p hs : List Hd), SortH hs → (∀ h ∈ hs, 0 < h.mode) → (∀ h ∈ p, 0 < h.mode) → (p.Pairwise fun a b => a.owner ≠ b.owner) →
    (∀ w ∈ p, ofH (p.foldl putH hs) w.owner = w.mode) ∧ (∀ o, (∀ w ∈ p, w.owner ≠ o) → ofH (p.foldl putH hs) o = ofH hs o)
  | [], _, _, _, _, _ => ⟨by simp, fun _ _ => rfl⟩
  | w :: p, hs, h0, h1, h2, h3 => by
    obtain ⟨d1, d2⟩ := List.pairwise_cons.1 h3
    have hw := h2 w (List.mem_cons_self ..)
    have hpos : ∀ h ∈ putH hs w, 0 < h.mode := fun h hh => by
      rcases (putH_mem h0).1 hh with rfl | ⟨hh, -⟩
      · exact hw
      · exact h1 h hh
    obtain ⟨k1, k2⟩ := foldl_put_of p (putH hs w) (putH_sort h0 w) hpos (fun h hh => h2 h (List.mem_cons_of_mem _ hh)) d2
    refine ⟨fun x hx => ?_, fun o ho => ?_⟩
    · rcases List.mem_cons.1 hx with rfl | hx
      · show ofH (p.foldl putH (putH hs x)) x.owner = _
        rw [k2 x.owner fun y hy e => d1 y hy e.symm, ofH_put h0 h1 x hw, if_pos rfl]
      · exact k1 x hx
    · show ofH (p.foldl putH (putH hs w)) o = _
      rw [k2 o fun y hy => ho y (List.mem_cons_of_mem _ hy), ofH_put h0 h1 w hw, if_neg fun e => ho w (List.mem_cons_self ..) e.symm]
/-- who comes in, who stays. -/
theorem letH_parts {hs qs : List Hd} (h : LiW hs qs) : ∃ p, qs = p ++ (letH hs qs).2.2 ∧ (letH hs qs).1 = p.map (·.owner) ∧ (letH hs qs).2.1 = p.foldl putH hs ∧
    (∀ w ∈ p, ofH (letH hs qs).2.1 w.owner = w.mode) ∧ (∀ o, (∀ w ∈ p, w.owner ≠ o) → ofH (letH hs qs).2.1 o = ofH hs o) := by
  obtain ⟨p, h1, h2, h3⟩ := letH_split qs hs
  have hsub : p.Sublist qs := by rw [h1]; exact List.sublist_append_left ..
  obtain ⟨k1, k2⟩ := foldl_put_of p hs h.sh h.hpos (fun x hx => h.qpos x (hsub.subset hx)) (h.qd.sublist hsub)
  rw [← h3] at k1 k2
  exact ⟨p, h1, h2, h3, k1, k2⟩
/-- a line of nobody ahead: nobody comes in. -/
theorem letH_not {hs qs : List Hd} (h : mayH hs qs = false) : letH hs qs = ([], hs, qs) := by
  cases qs with
  | nil => rfl
  | cons w r => unfold letH; rw [h]; rfl
/-- who asks has it, or waits. -/
theorem askLi_has {l : Li} (h : LiW l.hs l.qs) {w : Hd} (h0 : 0 ≤ w.owner) (hm : modeM w.mode = true) (hlt : ofH (askLi l w).2.hs w.owner < w.mode) : 0 < ofH (askLi l w).2.qs w.owner := by
  unfold askLi at hlt ⊢
  split
  · rename_i hc; rw [if_pos hc] at hlt; simp only at hlt; omega
  · rename_i hc
    rw [if_neg hc] at hlt
    split
    · assumption
    · rename_i hq
      rw [if_neg hq] at hlt
      have hW := h.ask h0 hm (by omega) hq
      simp only at hlt ⊢
      have hwq : w ∈ (if 0 < ofH l.hs w.owner then l.qs.take (upsH l.hs l.qs) ++ w :: l.qs.drop (upsH l.hs l.qs) else l.qs ++ [w]) := by split <;> simp
      generalize (if 0 < ofH l.hs w.owner then l.qs.take (upsH l.hs l.qs) ++ w :: l.qs.drop (upsH l.hs l.qs) else l.qs ++ [w]) = q at *
      obtain ⟨p, h1, -, -, h4, -⟩ := letH_parts hW
      have hrest : ∀ x ∈ (letH l.hs q).2.2, 0 < x.mode := fun x hx => hW.qpos x (by rw [h1]; exact List.mem_append_right _ hx)
      rw [h1] at hwq
      rcases List.mem_append.1 hwq with hp | hp
      · have := h4 w hp; omega
      · exact ofH_pos hrest hp
theorem outH_none (l : List Hd) (o : Int) : ∀ x ∈ outH l o, x.owner ≠ o := fun _x hx => (mem_outH.1 hx).2
/-- who left holds nothing, and waits for nothing. -/
theorem leaveLi_none {l : Li} (h : LiW l.hs l.qs) (o : Int) : (∀ x ∈ (leaveLi l o).2.hs, x.owner ≠ o) ∧ ∀ x ∈ (leaveLi l o).2.qs, x.owner ≠ o := by
  obtain ⟨p, h1, -, h3, -, -⟩ := letH_parts (h.out o)
  constructor
  · intro x hx
    have hx : x ∈ (letH (outH l.hs o) (outH l.qs o)).2.1 := hx
    rw [h3] at hx
    rcases foldl_put_mem p _ (h.out o).sh x hx with hx | hx
    · exact outH_none l.qs o x (by rw [h1]; exact List.mem_append_left _ hx)
    · exact outH_none l.hs o x hx
  · intro x hx
    exact outH_none l.qs o x (by rw [h1]; exact List.mem_append_right _ hx)
theorem holder_of_may {hs qs : List Hd} (h : mayH hs qs = false) (hne : ¬ (hs.length + qs.length == 0) = true) : hs ≠ [] := by
  rintro rfl
  cases qs with
  | nil => exact hne rfl
  | cons w r => rw [mayH_cons] at h; simp [ofH, fitsH] at h
/-- each line has a holder. -/
theorem LOk.held {L : List Li} (h : LOk L) {l : Li} (hl : l ∈ L) : l.hs ≠ [] := holder_of_may (h.ok l hl).may (by have := (h.ok l hl).ne; unfold emptyLi at this; rw [this]; decide)
/-- each has the mode in which it is told to hold. -/
theorem LiW.hof {hs qs : List Hd} (h : LiW hs qs) {x : Hd} (hx : x ∈ hs) : ofH hs x.owner = x.mode := ofH_eq h.sh.ne hx
/-- the sizes. -/
theorem askLi_sum (l : Li) (w : Hd) : (askLi l w).2.hs.length + (askLi l w).2.qs.length ≤ l.hs.length + l.qs.length + 1 := by
  unfold askLi
  split
  · simp
  · split
    · simp
    · simp only
      refine Nat.le_trans (letH_sum _ _) ?_
      split
      · rw [List.length_append, List.length_cons, List.length_take, List.length_drop]; omega
      · rw [List.length_append, List.length_singleton]; omega
theorem Sm.ask {N : Nat} {L : List Li} (h : Sm N L) (o : Int) (k : ByteArray) (m : Int) : Sm (N + 1) (askL L o k m).2 := by
  unfold askL
  split
  · exact ⟨by have := h.1; simp only; omega, fun l hl => by have := h.2 l hl; omega⟩
  · split
    · refine ⟨by have := h.1; simp only [List.length_set]; omega, fun l hl => ?_⟩
      rcases List.mem_or_eq_of_mem_set hl with hl | rfl
      · have := h.2 l hl; omega
      · refine Nat.le_trans (askLi_sum _ _) ?_
        cases hx : L[posL L k]? with
        | none => simp
        | some x =>
          have := h.2 x (List.mem_of_getElem? hx)
          rw [Option.getD_some]; omega
    · refine ⟨by have := h.1; simp only [List.length_append, List.length_cons, List.length_take, List.length_drop]; omega, fun l hl => ?_⟩
      rcases List.mem_append.1 hl with hl | hl
      · have := h.2 l (List.mem_of_mem_take hl); omega
      · rcases List.mem_cons.1 hl with rfl | hl
        · simp
        · have := h.2 l (List.mem_of_mem_drop hl); omega
theorem Sm.leave {N : Nat} {L : List Li} (h : Sm N L) (o : Int) : Sm N (leaveL L o).2 := by
  refine ⟨Nat.le_trans (List.length_filter_le _ _) (by rw [List.length_map]; exact h.1), fun l hl => ?_⟩
  obtain ⟨h1, -⟩ := List.mem_filter.1 hl
  obtain ⟨x, hx, rfl⟩ := List.mem_map.1 h1
  exact Nat.le_trans (leaveLi_sum x o) (h.2 x hx)
/-- who waits is blocked. -/
theorem blkH_mem {l : List Hd} {x : Hd} {o : Int} : o ∈ blkH l x ↔ ∃ h ∈ l, h.owner = o ∧ h.owner ≠ x.owner ∧ clashM h.mode x.mode = true := by
  unfold blkH
  simp only [List.mem_map, List.mem_filter, Bool.and_eq_true, Bool.not_eq_true', beq_eq_false_iff_ne]
  constructor
  · rintro ⟨h, ⟨h1, h2, h3⟩, rfl⟩; exact ⟨h, h1, rfl, h2, h3⟩
  · rintro ⟨h, h1, rfl, h2, h3⟩; exact ⟨h, ⟨h1, h2, h3⟩, rfl⟩
theorem blkQ_mem {hs qs : List Hd} {o x : Int} : ∀ {n : Nat}, x ∈ blkQ hs qs o n ↔ ∃ i, i < n ∧ ∃ h : i < qs.length, qs[i].owner = o ∧ (x ∈ blkH hs qs[i] ∨ x ∈ blkH (qs.take i) qs[i])
  | 0 => by simp [blkQ]
  | n + 1 => by
    rw [blkQ, List.mem_append, blkQ_mem (n := n)]
    constructor
    · rintro (⟨i, hi, h1, h2⟩ | h)
      · exact ⟨i, by omega, h1, h2⟩
      · split at h
        · rename_i z hz
          obtain ⟨hl, rfl⟩ := List.getElem?_eq_some_iff.1 hz
          split at h
          · exact ⟨n, by omega, hl, by assumption, List.mem_append.1 h⟩
          · cases h
        · cases h
    · rintro ⟨i, hi, h1, h2, h3⟩
      by_cases e : i = n
      · subst e
        right
        rw [List.getElem?_eq_getElem h1]
        simp only [h2, if_true]
        exact List.mem_append.2 h3
      · exact .inl ⟨i, by omega, h1, h2, h3⟩
theorem blkLi_mem {l : Li} {o x : Int} : x ∈ blkLi l o ↔ ∃ i, ∃ h : i < l.qs.length, l.qs[i].owner = o ∧ (x ∈ blkH l.hs l.qs[i] ∨ x ∈ blkH (l.qs.take i) l.qs[i]) := by
  unfold blkLi
  rw [blkQ_mem]
  constructor
  · rintro ⟨i, _, h⟩; exact ⟨i, h⟩
  · rintro ⟨i, h, h2⟩; exact ⟨i, h, h, h2⟩
theorem blkLi_not_self {l : Li} {o : Int} : o ∉ blkLi l o := by
  rw [blkLi_mem]
  rintro ⟨i, h, rfl, h2 | h2⟩
  · obtain ⟨y, -, e, hne, -⟩ := blkH_mem.1 h2; exact hne e
  · obtain ⟨y, -, e, hne, -⟩ := blkH_mem.1 h2; exact hne e
theorem LiW.first {hs r : List Hd} {w : Hd} (h : LiW hs (w :: r)) (hm : mayH hs (w :: r) = false) : ∃ z ∈ hs, z.owner ≠ w.owner ∧ clashM z.mode w.mode = true ∧ (w.mode = 2 ∨ z.mode = 2) := by
  obtain ⟨q0, q1, q2⟩ := h.qp w (List.mem_cons_self ..)
  rw [mayH_cons] at hm
  split at hm
  · rename_i hup
    have h2 : w.mode = 2 := by rcases modeM_iff.1 q1 with e | e <;> omega
    obtain ⟨y, hy, e, -⟩ := ofH_mem hup
    have hlen : hs.length ≠ 1 := by simpa using hm
    match hs, hy with
    | [a], _ => simp at hlen
    | a :: b :: t, _ =>
      have hab := (List.pairwise_cons.1 h.sh).1 b (by simp)
      by_cases ea : a.owner = w.owner
      · exact ⟨b, by simp, by omega, by simp [clashM, h2], .inl h2⟩
      · exact ⟨a, by simp, ea, by simp [clashM, h2], .inl h2⟩
  · rename_i hup
    have hex : ∃ z ∈ hs, clashM z.mode w.mode = true := by
      have hn : ¬ fitsH hs w.mode = true := by rw [hm]; decide
      rw [fitsH_iff] at hn
      refine Classical.byContradiction fun hne => hn fun z hz => ?_
      cases hc : clashM z.mode w.mode with
      | false => rfl
      | true => exact absurd ⟨z, hz, hc⟩ hne
    obtain ⟨z, hz, hc⟩ := hex
    refine ⟨z, hz, fun e => hup ?_, hc, by simp [clashM] at hc; exact hc.symm⟩
    rw [← e]; exact ofH_pos h.hpos hz
/-- one that waits is blocked by someone. -/
theorem LiW.blocked {hs qs : List Hd} (h : LiW hs qs) (hm : mayH hs qs = false) {i : Nat} (hi : i < qs.length) : ∃ x, x ∈ blkH hs qs[i] ∨ x ∈ blkH (qs.take i) qs[i] := by
  match qs, h, hm, hi with
  | w :: r, h, hm, hi =>
    obtain ⟨z, hz, hne, hc, h2⟩ := h.first hm
    cases i with
    | zero => exact ⟨z.owner, .inl (blkH_mem.2 ⟨z, hz, rfl, hne, hc⟩)⟩
    | succ i =>
      have hi' : i < r.length := by simpa using hi
      have hd : w.owner ≠ r[i].owner := (List.pairwise_cons.1 h.qd).1 _ (List.getElem_mem hi')
      rcases h2 with h2 | h2
      · refine ⟨w.owner, .inr (blkH_mem.2 ⟨w, by simp, rfl, hd, by simp [clashM, h2]⟩)⟩
      · refine ⟨z.owner, .inl (blkH_mem.2 ⟨z, hz, rfl, fun e => ?_, by simp [clashM, h2]⟩)⟩
        obtain ⟨-, q1, q2⟩ := h.qp r[i] (List.mem_cons_of_mem _ (List.getElem_mem hi'))
        have e' : z.owner = r[i].owner := e
        rw [← e', h.hof hz] at q2
        rcases modeM_iff.1 q1 with e | e <;> omega
/-- who waits somewhere is blocked; who is blocked waits somewhere. -/
theorem blkL_iff {L : List Li} (h : LOk L) (o : Int) : blkL L o ≠ [] ↔ ∃ l ∈ L, 0 < ofH l.qs o := by
  constructor
  · intro hne
    obtain ⟨x, hx⟩ := List.exists_mem_of_ne_nil _ hne
    obtain ⟨l, hl, hx⟩ := List.mem_flatMap.1 hx
    obtain ⟨i, hi, rfl, -⟩ := blkLi_mem.1 hx
    exact ⟨l, hl, ofH_pos (h.ok l hl).w.qpos (List.getElem_mem hi)⟩
  · rintro ⟨l, hl, hq⟩
    obtain ⟨y, hy, rfl, -⟩ := ofH_mem hq
    obtain ⟨i, hi, rfl⟩ := List.getElem_of_mem hy
    obtain ⟨x, hx⟩ := (h.ok l hl).w.blocked (h.ok l hl).may hi
    exact List.ne_nil_of_mem (List.mem_flatMap.2 ⟨l, hl, blkLi_mem.2 ⟨i, hi, rfl, hx⟩⟩)
theorem blkL_not_self {L : List Li} {o : Int} : o ∉ blkL L o := by
  intro h
  obtain ⟨l, -, hx⟩ := List.mem_flatMap.1 h
  exact blkLi_not_self hx
end Go.Proofs.YtmifgnibalbgjaaGreat
/- From. -/
namespace Go.Proofs.YtmifgnibalbgjaaGreat
open Go.RowKit Go.Sort
/-- lines that can be read, the queues up to their room, too. -/
def LinesC (w : World) (a : Option Addr) (n : Nat) (L : List Li) : Prop := n = L.length ∧ ∀ j (h : j < L.length), ∃ g o x, a = some ⟨g, o, none⟩ ∧ lnAt w g (o + j * 3) x ∧ x.key = L[j].key ∧ HdsAt w x.hs.a x.hs.n L[j].hs ∧ HdsAt w x.qs.a x.qs.n L[j].qs ∧ x.hs.n ≤ maxLen ∧ x.qs.n ≤ maxLen ∧ x.qs.n ≤ x.qs.c
theorem LinesC.at {w : World} {a : Option Addr} {n : Nat} {L : List Li} (h : LinesC w a n L) : LinesAt w a n L :=
  ⟨h.1, fun j hj => let ⟨g, o, x, e, h1, h2, h3, h4, h5, h6, _⟩ := h.2 j hj; ⟨g, o, x, e, h1, h2, h3, h4, h5, h6⟩⟩
theorem LinesC.below {w w' : World} {a : Option Addr} {n : Nat} {L : List Li} (h : LinesC w a n L) (b : Below w.heap.size w w') : LinesC w' a n L :=
  ⟨h.1, fun j hj => let ⟨g, o, x, e, h1, h2, h3, h4, h5⟩ := h.2 j hj; ⟨g, o, x, e, h1.below b, h2, h3.below b, h4.below b, h5⟩⟩
/-- new lines can be read. -/
theorem LinesC.mem {w0 w : World} {D0 : List Nat} {b : Option Addr} {d : Nat} {X : List Ln} {L : List Li} {r : List Asn} [Stables r] (hk : X.map (·.key) = L.map (·.key)) (hm : Mem w0 D0 w (RowA 66 3 b L.length d (lnFlat X) :: (rowsOf X L ++ r))) : LinesC w b L.length L := by
  obtain ⟨hk1, hk2⟩ := keys_at hk
  refine ⟨rfl, fun j hj => ?_⟩
  obtain ⟨g, e, h1⟩ := lnAt_row (Mem.rowAt [] hm) j (by omega)
  obtain ⟨r1, r2⟩ := rowsOf_read [RowA 66 3 b L.length d (lnFlat X)] hm (i := j) (by omega) hj
  exact ⟨g, 0, X[j]'(by omega), e, by rw [Nat.zero_add]; exact h1, hk2 j (by omega) hj, HdsAt.row r1, HdsAt.row r2, row_max r1, row_max r2, row_cap r2⟩
/-- may there be a table of these lines? -/
def okAt (L : List Li) (i : Nat) : Bool := rightB (L.getD i Li0) && (i == 0 || ltS (L.getD (i - 1) Li0).key (L.getD i Li0).key)
def fromB (L : List Li) : Bool := (List.range L.length).all (okAt L)
def FromPost (w : World) (L : List Li) (e : Ending) (w' : World) : Prop :=
  (fromB L = true ∧ ∃ q, e = .returned (.tuple #[.pointer (some ⟨q, 0, none⟩), .int .i64 0]) ∧ Mem w [] w' [TabA q L]) ∨ (fromB L = false ∧ e = .returned (.tuple #[.pointer none, .int .i64 2]) ∧ Below w.heap.size w w')
set_option maxRecDepth 100000 in
set_option maxHeartbeats 8000000 in
theorem from_any (a : Option Addr) (n c : Nat) (L : List Li) (w : World) (h : LinesC w a n L) (hb : Sm 1000 L) : Calls Tryz.prog 103 #[.slice a n c] w (FromPost w L) := by
  obtain rfl := h.1
  have HL := Lib.hid h
  have HC := Lib.hid fun W (hW : Below w.heap.size w W) => copied_any a L.length c L W (h.at.below hW) hb
  have HSM := Lib.hid hb
  have hn4 : L.length ≤ 1000 := hb.1
  have HNO : Hid (∀ i W, i < L.length → okAt L i = false → Below w.heap.size w W → FromPost w L (.returned (.tuple #[.pointer none, .int .i64 2])) W) := Lib.hid fun i W hi ho hW =>
    .inr ⟨by unfold fromB; rw [List.all_eq_false]; exact ⟨i, List.mem_range.2 hi, by rw [ho]; decide⟩, rfl, hW⟩
  clear h hb
  go_enter Tryz.func103, Tryz.ntmps103
  go_wp2_with fail
  go_loopw [8] (fun jv wr => ∃ i : Nat, i ≤ L.length ∧ jv = .int .i64 (i : Nat) ∧ Hid ((∀ t, t < i → okAt L t = true) ∧ Below w.heap.size w wr)) (fun jv _ => L.length - (intOf jv).toNat)
  case atStart => exact ⟨0, Nat.zero_le _, rfl, Lib.hid ⟨fun t ht => absurd ht (by omega), Below.refl _ _⟩⟩
  case round =>
    obtain ⟨w1, rfl⟩ : ∃ w1, w1 = wr := ⟨_, rfl⟩
    obtain ⟨i, hi, rfl, hS⟩ := hrel
    obtain ⟨hall, hb1⟩ := hS.out
    clear hS
    by_cases hlt : i < L.length
    · obtain ⟨g, o, x, rfl, hx, hxk, hxh, hxq, hx1, hx2, hx3⟩ := HL.out.2 i hlt
      obtain ⟨k0, k1, k2⟩ := hx.below hb1
      have hsm := HSM.out.2 _ (List.getElem_mem hlt)
      have HRT := Lib.hid fun W (hW : Below w.heap.size w W) => right_any x L[i] W hxk (hxh.below hW) (hxq.below hW) (by have := hxh.1; omega) (by have := hxq.1; omega) hx3
      have hoki : okAt L i = (rightB L[i] && (i == 0 || ltS (L.getD (i - 1) Li0).key x.key)) := by
        unfold okAt
        rw [List.getD_eq_getElem?_getD (l := L) (i := i), List.getElem?_eq_getElem hlt, Option.getD_some, hxk]
      have hprev : ∀ W, Below w.heap.size w W → 0 < i → W.cell? ⟨g, o + (i - 1) * 3, none⟩ = some (.string (L.getD (i - 1) Li0).key) := fun W hW h0 => by
        obtain ⟨g', o', x', e, hx', hxk', -⟩ := HL.out.2 (i - 1) (by omega)
        simp only [Option.some.injEq, Addr.mk.injEq, and_true] at e
        obtain ⟨rfl, rfl⟩ := e
        obtain ⟨y0, -, -⟩ := hx'.below hW
        rw [List.getD_eq_getElem?_getD, List.getElem?_eq_getElem (by omega : i - 1 < L.length), Option.getD_some, ← hxk']
        exact y0
      have HPV := Lib.hid hprev
      have HNX : Hid (okAt L i = true → ∀ t, t < i + 1 → okAt L t = true) := Lib.hid fun ho t ht => by
        rcases Nat.lt_or_ge t i with h | h
        · exact hall t h
        · obtain rfl : t = i := by omega
          exact ho
      have HNO2 := Lib.hid fun W => HNO.out i W hlt
      have HOK := Lib.hid hoki
      generalize okAt L i = ok at *
      generalize rightB L[i] = br at *
      generalize (L.getD (i - 1) Li0).key = pk at *
      clear hx hxk hxh hxq hx1 hx2 hx3 hsm hoki hprev hall
      obtain ⟨xk, ⟨ha, hn, hc⟩, ⟨qa, qn, qc⟩⟩ := x
      simp only at k0 k1 k2 HRT HOK
      have HB1 := Lib.hid hb1
      clear hb1
      go_upto_region 4 with (fail)
      obtain ⟨w6, hw6⟩ : ∃ w6, w6 = w1.alloc (.cells #[.string xk, .slice ha hn hc, .slice qa qn qc] 66) := ⟨_, rfl⟩
      have hb60 : Below w.heap.size w w6 := by rw [hw6]; exact bel_one HB1.out _
      have y0 : w6.cell? ⟨w1.heap.size, 0, none⟩ = some (.string xk) := by rw [hw6]; simp [go_sem]
      have y1 : w6.cell? ⟨w1.heap.size, 1, none⟩ = some (.slice ha hn hc) := by rw [hw6]; simp [go_sem]
      have y2 : w6.cell? ⟨w1.heap.size, 2, none⟩ = some (.slice qa qn qc) := by rw [hw6]; simp [go_sem]
      rw [← hw6]
      clear hw6 k0 k1 k2
      generalize w1.heap.size = b5 at *
      have q0 := cell_regrown y0
      have q1 := cell_regrown y1
      have q2 := cell_regrown y2
      have cR : ∀ d os, Calls Tryz.prog 144 #[.agg #[.string xk, .slice ha hn hc, .slice qa qn qc]] (grow (redrawn w6 d) os) fun e w'' => e = .returned (.bool br) ∧ ∃ p : Regrown, w'' = grow (redrawn w6 p.d) p.os := fun d os => Calls.regrown_of (HRT.out _ (hb60.trans ((below_regrown w6 d os).mono hb60.size)))
      have HGR : Hid (∀ d os, Below w.heap.size w (grow (redrawn w6 d) os)) := Lib.hid fun d os => hb60.trans ((below_regrown w6 d os).mono hb60.size)
      have hmix : Tryz.prog.follows .mixedOrders = true := by kernel_rfl
      have HP6 := Lib.hid (HPV.out w6 hb60)
      clear HRT HPV hb60 HL HSM y0 y1 y2
      cases br with
      | false =>
        have ho : ok = false := by rw [HOK.out]; rfl
        have HN := Lib.hid fun W => HNO2.out W ho
        clear HOK HNX HNO2 ho
        refine wp_region_quiet_below hmix (by kernel_rfl) ?_
        repeat (go_big_quiet_step (exact cR _ _))
        refine wpQuiet_nil ?_
        intro _ hw'
        obtain ⟨⟨dq, osq⟩, hw'⟩ := hw'
        subst hw'
        have HF := Lib.hid (HN.out _ (HGR.out dq osq))
        clear HGR HN q0 q1 q2 cR
        go_wp2_with fail
        go_ret2
        exact HF.out
      | true =>
        cases i with
        | zero =>
          have ho : ok = true := by rw [HOK.out]; rfl
          have HN := Lib.hid (HNX.out ho)
          clear HOK HNX HNO2 ho
          refine wp_region_quiet_below hmix (by kernel_rfl) ?_
          repeat (go_big_quiet_step (exact cR _ _))
          refine wpQuiet_nil ?_
          intro _ hw'
          obtain ⟨⟨dq, osq⟩, hw'⟩ := hw'
          subst hw'
          have HW := Lib.hid (HGR.out dq osq)
          clear HGR q0 q1 q2 cR
          go_wp2_with fail
          go_roundw
          case rel => exact ⟨1, by omega, by go_num, Lib.hid ⟨HN.out, HW.out⟩⟩
          case measure => simp [intOf]; omega
        | succ k =>
          have p0 := HP6.out (by omega)
          rw [Nat.add_sub_cancel] at p0
          have q3 := cell_regrown p0
          have hok2 : ok = ltS pk xk := by rw [HOK.out]; simp
          have hk1 : (0 : Int) < (k : Int) + 1 := by omega
          have hk2 : (k : Int) < (L.length : Int) := by omega
          have hk3 : (0 : Int) ≤ (k : Int) := by omega
          have hk4 : k < L.length := by omega
          clear HP6 p0
          cases hl2 : ltS pk xk with
          | true =>
            have hl3 : Op.bytesLess pk.toList xk.toList = true := hl2
            have HN := Lib.hid (HNX.out (hok2.trans hl2))
            clear HOK HNX HNO2 hok2 hl2
            refine wp_region_quiet_below hmix (by kernel_rfl) ?_
            repeat (go_big_quiet_step (exact cR _ _))
            refine wpQuiet_nil ?_
            intro _ hw'
            obtain ⟨⟨dq, osq⟩, hw'⟩ := hw'
            subst hw'
            have HW := Lib.hid (HGR.out dq osq)
            clear HGR q0 q1 q2 q3 cR
            go_wp2_with fail
            go_roundw
            case rel => exact ⟨k + 1 + 1, by omega, by go_num, Lib.hid ⟨HN.out, HW.out⟩⟩
            case measure => simp [intOf]; omega
          | false =>
            have hl3 : Op.bytesLess pk.toList xk.toList = false := hl2
            have HN := Lib.hid fun W => HNO2.out W (hok2.trans hl2)
            clear HOK HNX HNO2 hok2 hl2
            refine wp_region_quiet_below hmix (by kernel_rfl) ?_
            repeat (go_big_quiet_step (exact cR _ _))
            refine wpQuiet_nil ?_
            intro _ hw'
            obtain ⟨⟨dq, osq⟩, hw'⟩ := hw'
            subst hw'
            have HF := Lib.hid (HN.out _ (HGR.out dq osq))
            clear HGR HN q0 q1 q2 q3 cR
            go_wp2_with fail
            go_ret2
            exact HF.out
    · obtain rfl : i = L.length := by omega
      have hf : fromB L = true := by
        unfold fromB
        rw [List.all_eq_true]
        exact fun t ht => hall t (List.mem_range.1 ht)
      have HF := Lib.hid hf
      have HB1 := Lib.hid hb1
      have HCC := Lib.hid (HC.out w1 hb1)
      clear hf hb1 hall
      go_wp2_with fail
      refine HCC.out.mono ?_
      rintro e w2 ⟨b, d, X, rfl, hk, hm⟩
      have hm2 := hm.block #[.slice b L.length d] 144
      have hm3 := Mem.shut (r := []) hk (by rw [List.append_nil]; exact hm2)
      have HT := Lib.hid hm3
      have HB2 := Lib.hid hm.bel
      clear hm hm2 hm3 hk
      go_wp2_with fail
      go_ret2
      refine .inl ⟨HF.out, w2.heap.size, rfl, ?_⟩
      exact (Step.of_below HB1.out []).mem HT.out
end Go.Proofs.YtmifgnibalbgjaaGreat
