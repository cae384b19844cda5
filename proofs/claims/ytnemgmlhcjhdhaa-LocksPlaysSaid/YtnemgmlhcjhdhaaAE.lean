/- The laws' argument: acts; few. -/
import Derived.Test.YtnemgmlhcjhdhaaAB
import Derived.Deep.Slices
import Derived.OpenShut
import Derived.Carry
namespace Go.Proofs.Ytnemgmlhcjhdhaa
open Go.RowKit
theorem u8_bd2 {n : Int} (h : (Lit.int .u8 n).wf = true) : 0 ≤ n ∧ n ≤ 255 := by
  simp [Lit.wf, IntKind.min, IntKind.max, IntKind.signed, IntKind.bits] at h
  omega
theorem i64_bd2 {n : Int} (h : (Lit.int .i64 n).wf = true) : -9223372036854775808 ≤ n ∧ n ≤ 9223372036854775807 := by
  simp [Lit.wf, IntKind.min, IntKind.max, IntKind.signed, IntKind.bits] at h
  omega
theorem addr_spot {w : World} {a : Addr} {v : Value} (h : w.cell? a = some v) : a.spot = none := by
  unfold World.cell? at h
  split at h
  · split at h
    · exact absurd h (by simp)
    · rename_i hs; simpa using hs
  · exact absurd h (by simp)
theorem list_of {α : Type} [Inhabited α] (n : Nat) (p : Nat → α → Prop) (h : ∀ i, i < n → ∃ x, p i x) : ∃ l : List α, l.length = n ∧ ∀ i (hi : i < l.length), p i l[i] := by
  obtain ⟨f, hf⟩ := Go.Deep.choose_lt h
  exact ⟨(List.range n).map f, by simp, fun i hi => by simp at hi ⊢; exact hf i hi⟩
/-- The slice at a holds these bytes. -/
def BytesAt (w : World) (a : Option Addr) (n : Nat) (l : List Int) : Prop := n = l.length ∧ ∀ j (h : j < l.length), ∃ b off, a = some ⟨b, off, none⟩ ∧ w.cell? ⟨b, off + j, none⟩ = some (.int .u8 l[j]) ∧ 0 ≤ l[j] ∧ l[j] ≤ 255
theorem BytesAt.below {w w' : World} {a : Option Addr} {n : Nat} {l : List Int} (h : BytesAt w a n l) (b : Below w.heap.size w w') : BytesAt w' a n l :=
  ⟨h.1, fun j hj => let ⟨g, off, e, h1, h6⟩ := h.2 j hj; ⟨g, off, e, (b.cell (World.block_lt_of_cell? w _ h1)).trans h1, h6⟩⟩
section
variable {H : Type} {enc : TypeId × Value → H} {W : World} {base : Nat} {spare : Nat → Bool} {held : Bool}
/-- A slice that came in: each element's cells, and what they read as. -/
theorem open_elems {t e : TypeId} {a : Option Addr} {n c K : Nat} {d : DataW H} {p : List MemPlace} (ht : Try.prog.underlying t = some (.slice e)) (hK : Try.prog.cellsOf e = K) (hK0 : 0 < K)
    (h : DataW.Trod enc Try.prog W base spare held t (.slice a n c) d p) :
    n ≤ maxLen ∧ ∀ j, j < n → ∃ b off, a = some ⟨b, off, none⟩ ∧ ∃ cs m y, cs.length = K ∧ (∀ r v, cs[r]? = some v → W.cell? ⟨b, off + j * K + r, none⟩ = some v) ∧ DataW.trod enc Try.prog W base spare held m e cs = some y := by
  obtain ⟨fuel, hf⟩ := h
  rcases Go.Deep.open_slice ht hf with ⟨hcs, _⟩ | ⟨x, len, cap, m, n', D, Pl, hcs, _, hl, hm, hmm, _, hx⟩
  · simp [Value.cells] at hcs
    obtain ⟨rfl, rfl, rfl⟩ := hcs
    exact ⟨Nat.zero_le _, fun j hj => by omega⟩
  · simp [Value.cells] at hcs
    obtain ⟨rfl, rfl, rfl⟩ := hcs
    refine ⟨by omega, fun j hj => ?_⟩
    obtain ⟨cs', h1, h2⟩ := hx j (by rw [hmm]; split <;> omega)
    rw [hK] at h1
    obtain ⟨_, hlen, hcell⟩ := World.cells?_some h1
    obtain ⟨cs0, k1, _⟩ := hx 0 (by rw [hmm]; split <;> omega)
    rw [hK] at k1
    obtain ⟨_, hlen0, hcell0⟩ := World.cells?_some k1
    have h0 := hcell0 0 (by omega)
    rw [List.getElem?_eq_getElem (by omega)] at h0
    have hs := addr_spot h0
    obtain ⟨b, off, sp⟩ := x
    have hs' : sp = none := by simpa [Addr.add] using hs
    subst hs'
    refine ⟨b, off, rfl, cs', n', (D j, Pl j), hlen, fun r v hr => ?_, h2⟩
    have hr' : r < cs'.length := (List.getElem?_eq_some_iff.1 hr).1
    have := hcell r (by omega)
    rw [Addr.add_lit, Addr.add_lit] at this
    rw [this, hr]
theorem open_bytes {t e : TypeId} {a : Option Addr} {n c : Nat} {d : DataW H} {p : List MemPlace} (ht : Try.prog.underlying t = some (.slice e)) (he : Try.prog.underlying e = some (.int .u8)) (hK : Try.prog.cellsOf e = 1)
    (h : DataW.Trod enc Try.prog W base spare held t (.slice a n c) d p) : n ≤ maxLen ∧ ∃ l, BytesAt W a n l := by
  obtain ⟨hn, hj⟩ := open_elems ht hK (by decide) h
  obtain ⟨l, hl, hp⟩ := list_of n (fun j (x : Int) => ∃ b off, a = some ⟨b, off, none⟩ ∧ W.cell? ⟨b, off + j, none⟩ = some (.int .u8 x) ∧ 0 ≤ x ∧ x ≤ 255) fun j hjn => by
    obtain ⟨b, off, ha, cs, m, y, hlen, hc, hy⟩ := hj j hjn
    obtain ⟨x, rfl, _, hw⟩ := DataW.trod_int he hy
    exact ⟨x, b, off, ha, by simpa using hc 0 _ rfl, u8_bd2 hw⟩
  exact ⟨hn, l, hl.symm, hp⟩
end

/-- An element of the argument. -/
structure Ac where
  owner : Int
  key : ByteArray
  mode : Int
  leave : Bool
/-- The slice at a holds these. -/
def ActsAt (W : World) (a : Option Addr) (n : Nat) (l : List Ac) : Prop := n = l.length ∧ ∀ j (h : j < l.length), ∃ b off, a = some ⟨b, off, none⟩ ∧ (W.cell? ⟨b, off + j * 4, none⟩ = some (.int .i64 l[j].owner) ∧ W.cell? ⟨b, off + j * 4 + 1, none⟩ = some (.string l[j].key) ∧ W.cell? ⟨b, off + j * 4 + 2, none⟩ = some (.int .i64 l[j].mode) ∧ W.cell? ⟨b, off + j * 4 + 3, none⟩ = some (.bool l[j].leave)) ∧ -9223372036854775808 ≤ l[j].owner ∧ l[j].owner ≤ 9223372036854775807 ∧ l[j].key.size ≤ maxLen ∧ -9223372036854775808 ≤ l[j].mode ∧ l[j].mode ≤ 9223372036854775807
theorem ActsAt.below {w w' : World} {a : Option Addr} {n : Nat} {l : List Ac} (h : ActsAt w a n l) (b : Below w.heap.size w w') : ActsAt w' a n l :=
  have hk := fun {p : Addr} {v : Value} (hp : w.cell? p = some v) => (b.cell (World.block_lt_of_cell? w p hp)).trans hp
  ⟨h.1, fun j hj => let ⟨g, off, e, ⟨h0, h1, h2, h3⟩, hr⟩ := h.2 j hj; ⟨g, off, e, ⟨hk h0, hk h1, hk h2, hk h3⟩, hr⟩⟩
section
variable {H : Type} {enc : TypeId × Value → H} {W : World} {base : Nat} {spare : Nat → Bool} {held : Bool}
set_option maxRecDepth 100000 in
theorem open_acts {t e : TypeId} {a : Option Addr} {n c : Nat} {d : DataW H} {p : List MemPlace} {f0 f1 f2 f3 : Field} (ht : Try.prog.underlying t = some (.slice e)) (he : Try.prog.underlying e = some (.struct #[f0, f1, f2, f3])) (hK : Try.prog.cellsOf e = 4)
    (o0 : f0.offset = 0) (o1 : f1.offset = 1) (o2 : f2.offset = 2) (o3 : f3.offset = 3)
    (c0 : Try.prog.cellsOf f0.type = 1) (c1 : Try.prog.cellsOf f1.type = 1) (c2 : Try.prog.cellsOf f2.type = 1) (c3 : Try.prog.cellsOf f3.type = 1)
    (u0 : Try.prog.underlying f0.type = some (.int .i64)) (u1 : Try.prog.underlying f1.type = some (.string)) (u2 : Try.prog.underlying f2.type = some (.int .i64)) (u3 : Try.prog.underlying f3.type = some (.bool))
    (h : DataW.Trod enc Try.prog W base spare held t (.slice a n c) d p) : n ≤ maxLen ∧ ∃ l, ActsAt W a n l := by
  obtain ⟨hn, hj⟩ := open_elems ht hK (by decide) h
  haveI : Inhabited Ac := ⟨⟨0, ByteArray.empty, 0, false⟩⟩
  obtain ⟨l, hl, hp⟩ := list_of n (fun j (x : Ac) => ∃ b off, a = some ⟨b, off, none⟩ ∧ (W.cell? ⟨b, off + j * 4, none⟩ = some (.int .i64 x.owner) ∧ W.cell? ⟨b, off + j * 4 + 1, none⟩ = some (.string x.key) ∧ W.cell? ⟨b, off + j * 4 + 2, none⟩ = some (.int .i64 x.mode) ∧ W.cell? ⟨b, off + j * 4 + 3, none⟩ = some (.bool x.leave)) ∧ -9223372036854775808 ≤ x.owner ∧ x.owner ≤ 9223372036854775807 ∧ x.key.size ≤ maxLen ∧ -9223372036854775808 ≤ x.mode ∧ x.mode ≤ 9223372036854775807) fun j hjn => by
    obtain ⟨b, off, ha, cs, m, y, hlen, hc, hy⟩ := hj j hjn
    obtain ⟨xs, k, _, _, _, hxl, hf⟩ := DataW.trod_struct he hy
    match cs, hlen with
    | [v0, v1, v2, v3], _ =>
      match xs, hxl with
      | [y0, y1, y2, y3], _ =>
        have g0 := hf 0 f0 rfl
        have g1 := hf 1 f1 rfl
        have g2 := hf 2 f2 rfl
        have g3 := hf 3 f3 rfl
        simp [o0, o1, o2, o3, c0, c1, c2, c3] at g0 g1 g2 g3
        obtain ⟨x0, e0, _, w0⟩ := DataW.trod_int u0 g0
        obtain ⟨x1, e1, _, w1⟩ := DataW.trod_string u1 g1
        obtain ⟨x2, e2, _, w2⟩ := DataW.trod_int u2 g2
        obtain ⟨x3, e3, _⟩ := DataW.trod_bool u3 g3
        simp only [List.cons.injEq, and_true] at e0 e1 e2 e3
        subst e0 e1 e2 e3
        exact ⟨⟨x0, x1, x2, x3⟩, b, off, ha, ⟨by simpa using hc 0 _ rfl, hc 1 _ rfl, hc 2 _ rfl, hc 3 _ rfl⟩, (i64_bd2 w0).1, (i64_bd2 w0).2, w1, (i64_bd2 w2).1, (i64_bd2 w2).2⟩
  exact ⟨hn, l, hl.symm, hp⟩
end
def fewA (l : List Ac) : Bool := (l.all fun t => decide (t.key.size ≤ 100)) && decide (l.length ≤ 60)
set_option maxRecDepth 100000 in
set_option maxHeartbeats 1600000 in
theorem few_any (a : Option Addr) (n c : Nat) (l : List Ac) (w : World) (hn : n ≤ maxLen) (h : ActsAt w a n l) :
    Calls Try.prog 10 #[.slice a n c] w (fun e w' => e = .returned (.bool (fewA l)) ∧ Below w.heap.size w w') := by
  have HA := Lib.hid h
  unfold maxLen at hn
  clear h
  have HN := Lib.hid HA.out.1
  have HT : Hid ((∀ t ∈ l, t.key.size ≤ 100) → fewA l = decide ((n : Int) ≤ 60)) := Lib.hid fun h => by
    unfold fewA
    rw [List.all_eq_true.2 (fun t ht => decide_eq_true (h t ht)), Bool.true_and, HN.out]
    simp; omega
  have HF : Hid (∀ t ∈ l, ¬ t.key.size ≤ 100 → fewA l = false) := Lib.hid fun t ht h => by
    unfold fewA
    rw [Bool.and_eq_false_iff]
    left
    rw [List.all_eq_false]
    exact ⟨t, ht, by simpa using h⟩
  generalize fewA l = fl at *
  go_enter Try.func10, Try.ntmps10
  go_wp2_with fail
  go_loopw [7] (fun j wr => ∃ k : Nat, k ≤ n ∧ j = .int .i64 k ∧ Hid (Below w.heap.size w wr ∧ ∀ i (hi : i < l.length), i < k → l[i].key.size ≤ 100)) (fun j _ => n - (intOf j).toNat)
  case atStart => exact ⟨0, Nat.zero_le _, rfl, Lib.hid ⟨Below.refl _ _, fun i hi h => by omega⟩⟩
  case round =>
    obtain ⟨k, hk, rfl, hS⟩ := hrel
    obtain ⟨hb, hall⟩ := hS.out
    have HB := Lib.hid hb
    have HALL := Lib.hid hall
    clear hS hall
    by_cases hlt : k < n
    · have hk2 : k < l.length := by rw [← HN.out]; exact hlt
      obtain ⟨g, off, rfl, ⟨hx0, hx1, hx2, hx3⟩, _, _, hz, _, _⟩ := (HA.out.below hb).2 k hk2
      have hm := List.getElem_mem hk2
      have HX := Lib.hid (HF.out _ hm)
      have HNX : Hid (l[k].key.size ≤ 100 → ∀ i (hi : i < l.length), i < k + 1 → l[i].key.size ≤ 100) := Lib.hid fun h i hi hik => by
        by_cases e : i = k
        · subst e; exact h
        · exact HALL.out i hi (by omega)
      clear hm HALL
      generalize l[k] = x at *
      obtain ⟨xk, xy, xi, xs⟩ := x
      simp only at hx0 hx1 hx2 hx3 hz HX HNX
      unfold maxLen at hz
      clear hb
      generalize hsz : xy.size = z at *
      have HZ := Lib.hid hsz
      have HB2 := Lib.hid (HB.out.trans ((bel_new wr (.cells #[.int .i64 xk, .string xy, .int .i64 xi, .bool xs] 28)).mono HB.out.size))
      by_cases h100 : (100 : Int) < (z : Int)
      · have h1 := HX.out (by omega)
        subst h1
        have hd : decide ((100 : Int) < (z : Int)) = true := decide_eq_true h100
        clear HX HNX
        go_wp2_with fail
        go_ret
        exact ⟨rfl, HB2.out⟩
      · have hd : decide ((100 : Int) < (z : Int)) = false := decide_eq_false h100
        have HN2 := Lib.hid (HNX.out (by omega))
        clear HX HNX
        go_wp2_with fail
        go_roundw
        case rel => exact ⟨k + 1, by omega, by go_num, Lib.hid ⟨HB2.out, HN2.out⟩⟩
        case measure => simp [intOf]; omega
    · obtain rfl : k = n := by omega
      have he := HT.out fun t ht => by
        obtain ⟨i, hi, rfl⟩ := List.getElem_of_mem ht
        exact HALL.out i hi (by rw [HN.out]; exact hi)
      subst he
      clear HT HF hb
      go_wp2_with fail
      go_ret
      exact ⟨rfl, HB.out⟩
end Go.Proofs.Ytnemgmlhcjhdhaa
