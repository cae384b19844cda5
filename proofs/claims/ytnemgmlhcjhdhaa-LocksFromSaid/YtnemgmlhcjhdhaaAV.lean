/- Lines as an argument; a right table's lines are taken. -/
import Derived.Test.YtnemgmlhcjhdhaaAE
import Derived.Test.YtnemgmlhcjhdhaaAJ
namespace Go.Proofs.Ytnemgmlhcjhdhaa
open Go.RowKit
section
variable {H : Type} {enc : TypeId × Value → H} {W : World} {base : Nat} {spare : Nat → Bool} {held : Bool}
theorem slice_le {t e : TypeId} {a : Option Addr} {n c : Nat} {d : DataW H} {p : List MemPlace} (ht : Try.prog.underlying t = some (.slice e)) (h : DataW.Trod enc Try.prog W base spare held t (.slice a n c) d p) : n ≤ c := by
  obtain ⟨fuel, hf⟩ := h
  rcases Go.Deep.open_slice ht hf with ⟨hcs, _⟩ | ⟨x, len, cap, m, n', D, Pl, hcs, _, hl, _⟩
  · simp [Value.cells] at hcs
    obtain ⟨rfl, rfl, rfl⟩ := hcs
    exact Nat.le_refl _
  · simp [Value.cells] at hcs
    obtain ⟨rfl, rfl, rfl⟩ := hcs
    exact hl
set_option maxRecDepth 100000 in
theorem open_hds {t e : TypeId} {a : Option Addr} {n c : Nat} {d : DataW H} {p : List MemPlace} {f0 f1 : Field} (ht : Try.prog.underlying t = some (.slice e)) (he : Try.prog.underlying e = some (.struct #[f0, f1])) (hK : Try.prog.cellsOf e = 2)
    (o0 : f0.offset = 0) (o1 : f1.offset = 1) (c0 : Try.prog.cellsOf f0.type = 1) (c1 : Try.prog.cellsOf f1.type = 1) (u0 : Try.prog.underlying f0.type = some (.int .i64)) (u1 : Try.prog.underlying f1.type = some (.int .i64))
    (h : DataW.Trod enc Try.prog W base spare held t (.slice a n c) d p) : n ≤ maxLen ∧ ∃ l, HdsAt W a n l := by
  obtain ⟨hn, hj⟩ := open_elems ht hK (by decide) h
  haveI : Inhabited Hd := ⟨⟨0, 0⟩⟩
  obtain ⟨l, hl, hp⟩ := list_of n (fun j (x : Hd) => ∃ b off, a = some ⟨b, off, none⟩ ∧ hdAt W b (off + j * 2) x) fun j hjn => by
    obtain ⟨b, off, ha, cs, m, y, hlen, hc, hy⟩ := hj j hjn
    obtain ⟨xs, k, _, _, _, hxl, hf⟩ := DataW.trod_struct he hy
    match cs, hlen with
    | [v0, v1], _ =>
      match xs, hxl with
      | [y0, y1], _ =>
        have g0 := hf 0 f0 rfl
        have g1 := hf 1 f1 rfl
        simp [o0, o1, c0, c1] at g0 g1
        obtain ⟨x0, e0, _, w0⟩ := DataW.trod_int u0 g0
        obtain ⟨x1, e1, _, w1⟩ := DataW.trod_int u1 g1
        simp only [List.cons.injEq, and_true] at e0 e1
        subst e0 e1
        exact ⟨⟨x0, x1⟩, b, off, ha, by simpa using hc 0 _ rfl, hc 1 _ rfl⟩
  exact ⟨hn, l, hl.symm, hp⟩
set_option maxRecDepth 100000 in
theorem open_lines {t e s se : TypeId} {a : Option Addr} {n c : Nat} {d : DataW H} {p : List MemPlace} {f0 f1 f2 g0 g1 : Field} (ht : Try.prog.underlying t = some (.slice e)) (he : Try.prog.underlying e = some (.struct #[f0, f1, f2])) (hK : Try.prog.cellsOf e = 3)
    (o0 : f0.offset = 0) (o1 : f1.offset = 1) (o2 : f2.offset = 2) (c0 : Try.prog.cellsOf f0.type = 1) (c1 : Try.prog.cellsOf f1.type = 1) (c2 : Try.prog.cellsOf f2.type = 1)
    (u0 : Try.prog.underlying f0.type = some .string) (e1 : f1.type = s) (e2 : f2.type = s)
    (hs : Try.prog.underlying s = some (.slice se)) (hse : Try.prog.underlying se = some (.struct #[g0, g1])) (hK2 : Try.prog.cellsOf se = 2)
    (p0 : g0.offset = 0) (p1 : g1.offset = 1) (d0 : Try.prog.cellsOf g0.type = 1) (d1 : Try.prog.cellsOf g1.type = 1) (v0 : Try.prog.underlying g0.type = some (.int .i64)) (v1 : Try.prog.underlying g1.type = some (.int .i64))
    (h : DataW.Trod enc Try.prog W base spare held t (.slice a n c) d p) : n ≤ maxLen ∧ ∃ L, LinesC W a n L ∧ ∀ l ∈ L, l.key.size ≤ maxLen := by
  obtain ⟨hn, hj⟩ := open_elems ht hK (by decide) h
  haveI : Inhabited Li := ⟨Li0⟩
  have hsl : ∀ {m : Nat} {v : Value} {y : DataW H × List MemPlace}, DataW.trod enc Try.prog W base spare held m s [v] = some y → ∃ q : Sl, v = .slice q.a q.n q.c ∧ q.n ≤ maxLen ∧ q.n ≤ q.c ∧ ∃ l, HdsAt W q.a q.n l := fun {m v y} hy => by
    have hv : ∃ aj nj cj, v = .slice aj nj cj := by
      rcases Go.Deep.open_slice hs hy with ⟨e1, _⟩ | ⟨x, len, cap, m', n', D, Pl, e1, _⟩
      · exact ⟨_, _, _, by simpa using e1⟩
      · exact ⟨_, _, _, by simpa using e1⟩
    obtain ⟨aj, nj, cj, rfl⟩ := hv
    have htr : DataW.Trod enc Try.prog W base spare held s (.slice aj nj cj) y.1 y.2 := ⟨m, by simpa [Value.cells] using hy⟩
    obtain ⟨k1, l, hl⟩ := open_hds hs hse hK2 p0 p1 d0 d1 v0 v1 htr
    exact ⟨⟨aj, nj, cj⟩, rfl, k1, slice_le hs htr, l, hl⟩
  obtain ⟨L, hl, hp⟩ := list_of n (fun j (l : Li) => (∃ g o x, a = some ⟨g, o, none⟩ ∧ lnAt W g (o + j * 3) x ∧ x.key = l.key ∧ HdsAt W x.hs.a x.hs.n l.hs ∧ HdsAt W x.qs.a x.qs.n l.qs ∧ x.hs.n ≤ maxLen ∧ x.qs.n ≤ maxLen ∧ x.qs.n ≤ x.qs.c) ∧ l.key.size ≤ maxLen) fun j hjn => by
    obtain ⟨b, off, ha, cs, m, y, hlen, hc, hy⟩ := hj j hjn
    obtain ⟨xs, k, _, _, _, hxl, hf⟩ := DataW.trod_struct he hy
    match cs, hlen with
    | [q0, q1, q2], _ =>
      match xs, hxl with
      | [y0, y1, y2], _ =>
        have k0 := hf 0 f0 rfl
        have k1 := hf 1 f1 rfl
        have k2 := hf 2 f2 rfl
        simp [o0, o1, o2, c0, c1, c2] at k0 k1 k2
        rw [e1] at k1
        rw [e2] at k2
        obtain ⟨x0, e0, _, w0⟩ := DataW.trod_string u0 k0
        simp only [List.cons.injEq, and_true] at e0
        subst e0
        obtain ⟨s1, rfl, m1, m2, h1, hh1⟩ := hsl k1
        obtain ⟨s2, rfl, m3, m4, h2, hh2⟩ := hsl k2
        exact ⟨⟨x0, h1, h2⟩, ⟨b, off, ⟨x0, s1, s2⟩, ha, ⟨by simpa using hc 0 _ rfl, hc 1 _ rfl, hc 2 _ rfl⟩, rfl, hh1, hh2, m1, m3, m4⟩, w0⟩
  exact ⟨hn, L, ⟨hl.symm, fun j hj => (hp j hj).1⟩, fun l hlm => by
    obtain ⟨j, hj, rfl⟩ := List.getElem_of_mem hlm
    exact (hp j hj).2⟩
end
/-- right holders are taken. -/
theorem held_ok : ∀ (l : List Hd) (n : Nat) (last : Int), (∀ h ∈ l, last < h.owner) → SortH l → (∀ h ∈ l, modeM h.mode = true) → (∀ h ∈ l, h.mode = 2 → n = 1) → heldF n last l = true
  | [], _, _, _, _, _, _ => rfl
  | h :: r, n, last, h1, h2, h3, h4 => by
    obtain ⟨s1, s2⟩ := List.pairwise_cons.1 h2
    unfold heldF
    rw [held_ok r n h.owner s1 s2 (fun x hx => h3 x (List.mem_cons_of_mem _ hx)) (fun x hx => h4 x (List.mem_cons_of_mem _ hx)), h3 h (by simp)]
    have e1 : decide (h.owner ≤ last) = false := decide_eq_false (by have := h1 h (by simp); omega)
    rw [e1]
    cases hm : (h.mode == 2) with
    | false => rfl
    | true =>
      have := h4 h (by simp) (by simpa using hm)
      subst this; rfl
theorem LiW.heldB {hs qs : List Hd} (h : LiW hs qs) : heldB hs = true := by
  unfold Go.Proofs.Ytnemgmlhcjhdhaa.heldB
  exact held_ok hs hs.length (-1) (fun x hx => by have := (h.hp x hx).1; omega) h.sh (fun x hx => (h.hp x hx).2) (fun x hx h2 => h.sole x hx h2)
theorem queued_ok {hs qs : List Hd} (hb : ∀ i (h : i < qs.length), badQ hs qs i qs[i] = false) : ∀ (t i : Nat), i + t = qs.length → queuedF hs qs i (qs.drop i) = true
  | 0, i, h => by rw [List.drop_of_length_le (by omega)]; rfl
  | t + 1, i, h => by
    rw [List.drop_eq_getElem_cons (by omega : i < qs.length)]
    unfold queuedF
    rw [hb i (by omega), queued_ok hb t (i + 1) (by omega)]
    rfl
theorem LiW.queuedB {hs qs : List Hd} (h : LiW hs qs) : queuedB hs qs = true := by
  unfold Go.Proofs.Ytnemgmlhcjhdhaa.queuedB
  refine queued_ok (hs := hs) (qs := qs) (fun i hi => ?_) qs.length 0 (by omega)
  obtain ⟨q0, q1, q2⟩ := h.qp qs[i] (List.getElem_mem hi)
  have e1 : decide (qs[i].owner < 0) = false := decide_eq_false (by omega)
  have e2 : decide (qs[i].mode ≤ ofH hs qs[i].owner) = false := decide_eq_false (by omega)
  have e3 : ofH (qs.take i) qs[i].owner = 0 := ofH_none fun x hx => by
    obtain ⟨j, hj, rfl⟩ := List.getElem_of_mem hx
    rw [List.length_take] at hj
    rw [List.getElem_take]
    exact List.pairwise_iff_getElem.1 h.qd j i (by omega) hi (by omega)
  unfold badQ
  rw [e1, q1, e2, e3]
  cases hu : decide (0 < ofH hs qs[i].owner) with
  | false => rfl
  | true =>
    have hu := of_decide_eq_true hu
    have : ((qs.take i).any fun y => ofH hs y.owner == 0) = false := by
      rw [List.any_eq_false]
      intro x hx
      obtain ⟨j, hj, rfl⟩ := List.getElem_of_mem hx
      rw [List.length_take] at hj
      rw [List.getElem_take]
      have := List.pairwise_iff_getElem.1 h.up j i (by omega) hi (by omega) hu
      simp; omega
    rw [this]; rfl
theorem LiOk.rightB {l : Li} (h : LiOk l) : rightB l = true := by
  unfold Go.Proofs.Ytnemgmlhcjhdhaa.rightB
  have hne := h.ne
  unfold emptyLi at hne
  rw [decide_eq_true h.ks, decide_eq_true (by have := beq_eq_false_iff_ne.1 hne; omega : 0 < l.hs.length + l.qs.length), h.w.heldB, h.w.queuedB, h.may]
  rfl
theorem LOk.fromB {L : List Li} (h : LOk L) : fromB L = true := by
  unfold Go.Proofs.Ytnemgmlhcjhdhaa.fromB
  rw [List.all_eq_true]
  intro i hi
  have hi := List.mem_range.1 hi
  unfold okAt
  rw [List.getD_eq_getElem?_getD (l := L) (i := i), List.getElem?_eq_getElem hi, Option.getD_some, (h.ok _ (List.getElem_mem hi)).rightB]
  cases i with
  | zero => rfl
  | succ k =>
    rw [Nat.add_sub_cancel, List.getD_eq_getElem?_getD, List.getElem?_eq_getElem (by omega : k < L.length), Option.getD_some]
    rw [List.pairwise_iff_getElem.1 h.s k (k + 1) (by omega) hi (by omega)]
    rfl
end Go.Proofs.Ytnemgmlhcjhdhaa
