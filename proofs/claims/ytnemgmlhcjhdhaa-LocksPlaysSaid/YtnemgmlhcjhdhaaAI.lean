/- right. -/
import Derived.Test.YtnemgmlhcjhdhaaAB
import Derived.Test.YtnemgmlhcjhdhaaAC
namespace Go.Proofs.Ytnemgmlhcjhdhaa
open Go.RowKit
/-- may a line be? -/
def rightB (l : Li) : Bool := decide (l.key.size ≤ 16) && decide (0 < l.hs.length + l.qs.length) && heldB l.hs && queuedB l.hs l.qs && !mayH l.hs l.qs
set_option maxRecDepth 100000 in
set_option maxHeartbeats 4000000 in
theorem right_any (x : Ln) (l : Li) (w : World) (hk : x.key = l.key) (h1 : HdsAt w x.hs.a x.hs.n l.hs) (h2 : HdsAt w x.qs.a x.qs.n l.qs) (n1 : x.hs.n ≤ 1000000) (n2 : x.qs.n ≤ 1000000) (n3 : x.qs.n ≤ x.qs.c) :
    Calls Try.prog 36 #[.agg #[.string x.key, .slice x.hs.a x.hs.n x.hs.c, .slice x.qs.a x.qs.n x.qs.c]] w fun e w' => e = .returned (.bool (rightB l)) ∧ Below w.heap.size w w' := by
  obtain ⟨xk, ⟨ha, hn, hc⟩, ⟨qa, qn, qc⟩⟩ := x
  obtain ⟨lk, H, Q⟩ := l
  simp only at hk h1 h2 n1 n2 n3 ⊢
  subst hk
  obtain rfl : hn = H.length := h1.1
  obtain rfl : qn = Q.length := h2.1
  have HH := Lib.hid fun W (hb : Below w.heap.size w W) => held_any ha H.length hc H W (h1.below hb) (by unfold maxLen; omega)
  have HQ := Lib.hid fun W (hb : Below w.heap.size w W) => queued_any ⟨xk, ⟨ha, H.length, hc⟩, ⟨qa, Q.length, qc⟩⟩ H Q W (h1.below hb) (h2.below hb) (by show H.length ≤ maxLen; unfold maxLen; omega) n2 n3
  have HM := Lib.hid fun W (hb : Below w.heap.size w W) => may_any ⟨xk, ⟨ha, H.length, hc⟩, ⟨qa, Q.length, qc⟩⟩ H Q W (h1.below hb) (h2.below hb) (by show H.length ≤ maxLen; unfold maxLen; omega) (by show Q.length ≤ maxLen; unfold maxLen; omega)
  simp only at HQ HM
  have HR : Hid (rightB ⟨xk, H, Q⟩ = (decide (xk.size ≤ 16) && decide (0 < H.length + Q.length) && heldB H && queuedB H Q && !mayH H Q)) := Lib.hid rfl
  generalize rightB ⟨xk, H, Q⟩ = r at *
  clear h1 h2
  generalize heldB H = bh at *
  generalize queuedB H Q = bq at *
  generalize mayH H Q = bm at *
  generalize H.length = n at *
  generalize Q.length = m at *
  have hx0 := fun (W : World) (hb : Below (w.alloc (.cells #[.string xk, .slice ha n hc, .slice qa m qc] 34)).heap.size (w.alloc (.cells #[.string xk, .slice ha n hc, .slice qa m qc] 34)) W) =>
    (⟨(hb.cell (by simp only [World.size_alloc]; omega)).trans (by simp [go_sem]), (hb.cell (by simp only [World.size_alloc]; omega)).trans (by simp [go_sem]), (hb.cell (by simp only [World.size_alloc]; omega)).trans (by simp [go_sem])⟩ : W.cell? ⟨w.heap.size, 0, none⟩ = some (.string xk) ∧ W.cell? ⟨w.heap.size, 1, none⟩ = some (.slice ha n hc) ∧ W.cell? ⟨w.heap.size, 2, none⟩ = some (.slice qa m qc))
  have HX := Lib.hid hx0
  have HB0 := Lib.hid (bel_new w (.cells #[.string xk, .slice ha n hc, .slice qa m qc] 34))
  clear hx0
  generalize hsz : xk.size = z at *
  by_cases c1 : z ≤ 16
  · have d1 : (z : Int) ≤ 16 := by omega
    by_cases c2 : 0 < n + m
    · have d2 : (0 : Int) < (n : Int) + (m : Int) := by omega
      go_enter Try.func36, Try.ntmps36
      go_wp2_with fail
      refine (HH.out _ HB0.out).mono ?_
      rintro e w1 ⟨rfl, hb1⟩
      obtain ⟨x0, x1, x2⟩ := HX.out w1 hb1
      have HB1 := Lib.hid (HB0.out.trans (hb1.mono HB0.out.size))
      cases bh with
      | false =>
        have hr : r = false := by rw [HR.out]; simp
        subst hr
        clear HR HX HQ HM HH hb1
        go_wp2_with fail
        go_ret
        exact ⟨rfl, HB1.out⟩
      | true =>
        have HB2 := Lib.hid hb1
        clear hb1 HH
        go_wp2_with fail
        refine (HQ.out _ HB1.out).mono ?_
        rintro e w2 ⟨rfl, hb2⟩
        have hb20 := HB2.out.trans (hb2.mono HB2.out.size)
        obtain ⟨x0, x1, x2⟩ := HX.out w2 hb20
        have HB3 := Lib.hid (HB1.out.trans (hb2.mono HB1.out.size))
        cases bq with
        | false =>
          have hr : r = false := by rw [HR.out]; simp
          subst hr
          clear HR HX HQ HM hb2 hb20
          go_wp2_with fail
          go_ret
          exact ⟨rfl, HB3.out⟩
        | true =>
          clear HQ hb2 hb20
          go_wp2_with fail
          refine (HM.out _ HB3.out).mono ?_
          rintro e w3 ⟨rfl, hb3⟩
          have HB4 := Lib.hid (HB3.out.trans (hb3.mono HB3.out.size))
          have hr : r = !bm := by rw [HR.out]; simp [c1, c2]
          subst hr
          clear HR HX HM hb3
          go_wp2_with fail
          go_ret
          exact ⟨rfl, HB4.out⟩
    · have d2 : ¬ (0 : Int) < (n : Int) + (m : Int) := by omega
      have hr : r = false := by rw [HR.out]; simp [c2]
      subst hr
      clear HR HX HQ HM HH
      go_enter Try.func36, Try.ntmps36
      go_wp2_with fail
      go_ret
      exact ⟨rfl, HB0.out⟩
  · have d1 : ¬ (z : Int) ≤ 16 := by omega
    have hr : r = false := by rw [HR.out]; simp [c1]
    subst hr
    clear HR HX HQ HM HH
    go_enter Try.func36, Try.ntmps36
    go_wp2_with fail
    go_ret
    exact ⟨rfl, HB0.out⟩
end Go.Proofs.Ytnemgmlhcjhdhaa
