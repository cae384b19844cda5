/- The reference's Cancel, Crash, Next, Timers. -/
import Derived.Test.YtcolaafgjlaikaaFF
import Derived.Test.YtcolaafgjlaikaaBB
namespace Go.Proofs.Ytcolaafgjlaikaa
open Go.RowKit

/-- Since w0 the blocks D0 alone turned, and these are there now. -/
structure MemS (w0 : World) (D0 : List Nat) (w : World) (l : List Asn) : Prop where
  out : ∃ D, All l w D ∧ Step w0 D0 w D
theorem MemS.start {w : World} {D : List Nat} {A : Asn} (h : A w D) : MemS w D w [A] := ⟨D, all_one h, Touch.refl _ _, fun _ hx => .inl hx⟩
theorem MemS.focus {w0 w : World} {D0 : List Nat} (l : List Asn) {A : Asn} {r : List Asn} [Stable A] [Stables l] [Stables r] (h : MemS w0 D0 w (l ++ A :: r)) :
    ∃ D, A w D ∧ ∀ (As : List Asn) w' D', All As w' D' → Step w D w' D' → MemS w0 D0 w' (l ++ (As ++ r)) := by
  obtain ⟨D, hA, hD⟩ := h.out
  obtain ⟨D1, D2, rfl, hd, h1, E1, E2, rfl, he, h2, h3⟩ := all_append l (A :: r) hA
  refine ⟨E1, h2, fun As w' D' hAs hst => ?_⟩
  have hd1 : ∀ x ∈ D1, x ∉ E1 := fun x hx hm => hd x hx (List.mem_append_left _ hm)
  have hd2 : ∀ x ∈ D1, x ∉ E2 := fun x hx hm => hd x hx (List.mem_append_right _ hm)
  have he' : ∀ x ∈ E2, x ∉ E1 := fun x hx hm => he x hm hx
  obtain ⟨k1, k1'⟩ := hst.keep h1 hd1
  obtain ⟨k3, k3'⟩ := hst.keep h3 he'
  refine ⟨D1 ++ (D' ++ E2), all_mk k1 (all_mk hAs k3 fun x hx hm => k3' x hm hx) fun x hx hm => ?_, ?_, fun x hx => ?_⟩
  · rcases List.mem_append.1 hm with h' | h'
    · exact k1' x hx h'
    · exact hd2 x hx h'
  · exact hD.touch.trans hst.touch fun x hx => hD.fresh x (List.mem_append_right _ (List.mem_append_left _ hx))
  · rcases List.mem_append.1 hx with h' | h'
    · exact hD.fresh x (List.mem_append_left _ h')
    · rcases List.mem_append.1 h' with h' | h'
      · rcases hst.fresh x h' with h'' | h''
        · exact hD.fresh x (List.mem_append_right _ (List.mem_append_left _ h''))
        · exact .inr (Nat.le_trans hD.touch.size h'')
      · exact hD.fresh x (List.mem_append_right _ (List.mem_append_right _ h'))
theorem MemS.below {w0 w w' : World} {D0 : List Nat} {l : List Asn} [Stables l] (h : MemS w0 D0 w l) (b : Below w.heap.size w w') : MemS w0 D0 w' l := by
  obtain ⟨D, hA, hD⟩ := h.out
  exact ⟨D, ((Step.of_below b []).keep hA (by simp)).1, hD.touch.trans (Touch.of_below b []) (by simp), hD.fresh⟩
theorem MemS.new {w0 w w' : World} {D0 : List Nat} {l : List Asn} [Stables l] (h : MemS w0 D0 w l) (b : Below w.heap.size w w') {As : List Asn} {D' : List Nat} (hAs : All As w' D') (hD' : ∀ x ∈ D', w.heap.size ≤ x) : MemS w0 D0 w' (As ++ l) := by
  obtain ⟨D, hA, hD⟩ := h.out
  refine ⟨D' ++ D, all_mk hAs ((Step.of_below b []).keep hA (by simp)).1 fun x hx hm => ?_, hD.touch.trans (Touch.of_below b []) (by simp), fun x hx => ?_⟩
  · have := hD' x hx
    have := (allStable (l := l)).lt hA x hm
    omega
  · rcases List.mem_append.1 hx with h' | h'
    · exact .inr (Nat.le_trans hD.touch.size (hD' x h'))
    · exact hD.fresh x h'
theorem MemS.drop {w0 w : World} {D0 : List Nat} (l : List Asn) {A : Asn} {r : List Asn} [Stable A] [Stables l] [Stables r] (h : MemS w0 D0 w (l ++ A :: r)) : MemS w0 D0 w (l ++ r) := by
  obtain ⟨D, _, k⟩ := h.focus l
  exact k [] w [] rfl ⟨Touch.refl _ _, fun _ h => by cases h⟩
theorem MemS.get {w0 w : World} {D0 : List Nat} (l : List Asn) {A : Asn} {r : List Asn} [Stable A] [Stables l] [Stables r] (h : MemS w0 D0 w (l ++ A :: r)) : ∃ D, A w D := by
  obtain ⟨D, hA, _⟩ := h.focus l
  exact ⟨D, hA⟩
theorem MemS.block {w0 w : World} {D0 : List Nat} {l : List Asn} [Stables l] (h : MemS w0 D0 w l) (cur : Array Value) (T : TypeId) : MemS w0 D0 (w.alloc (.cells cur T)) (BlockA w.heap.size cur T :: l) :=
  h.new (Below.alloc (Below.refl _ _) (Nat.le_refl _) _) (As := [BlockA w.heap.size cur T]) (all_one ⟨rfl, by show (w.heap.push _)[w.heap.size]? = _; rw [Array.getElem?_push, if_pos rfl]⟩) (by simp)

/-- an ending, and the reference's board behind it. -/
def ToR (p : Nat) (e0 : Ending) (ck : List Int) (L : List Rt) (e : Ending) (As : List Asn) : Prop := e = e0 ∧ As = [RefA p ck L]
def RPost (w : World) (D : List Nat) (p : Nat) (e0 : Ending) (ck : List Int) (L : List Rt) (e : Ending) (w' : World) : Prop := ∃ As D', ToR p e0 ck L e As ∧ All As w' D' ∧ Step w D w' D'
theorem rf_same {w : World} {D : List Nat} {p : Nat} {ck : List Int} {L : List Rt} (h : RefA p ck L w D) (e0 : Ending) {w' : World} (b : Below w.heap.size w w') : RPost w D p e0 ck L e0 w' :=
  ⟨_, D, ⟨rfl, rfl⟩, all_one ((Stable.keep (A := RefA p ck L)) h fun x hx => b.block x (Stable.lt h x hx)), Step.of_below b D⟩
theorem rf_store {w w1 : World} {p gc : Nat} {a : Option Addr} {c : Nat} {ck : List Int} {L L' : List Rt} (h : Rf w p gc a c ck L) {a' : Option Addr} {n' c' : Nat} (hn : NewRow w L' (.slice a' n' c') w1) (e0 : Ending) :
    RPost w (p :: gc :: blkOf a) p e0 ck L' e0 (w1.setCell ⟨p, 1, none⟩ (.slice a' n' c')) := by
  obtain ⟨a2, c2, hv, hr, hb, hf⟩ := hn
  simp only [Value.slice.injEq] at hv
  obtain ⟨rfl, rfl, rfl⟩ := hv
  have h1 := h.below hb
  have hps := lt_of_heap h.hp
  have hcs := lt_of_heap h.hc
  have hpa : p ∉ blkOf a' := fun hm => by have := hf p hm; omega
  have hca : gc ∉ blkOf a' := fun hm => by have := hf gc hm; omega
  refine ⟨_, p :: gc :: blkOf a', ⟨rfl, rfl⟩, all_one ⟨gc, a', c', rfl, ?_, ?_, ?_, h.ne, hpa, hca⟩, ?_, ?_⟩
  · rw [heap_set h1.hp]; rfl
  · exact (Touch.setCell (bs := [p]) w1 ⟨p, 1, none⟩ _ (by simp)).heap h1.hc (by simpa using h.ne.symm)
  · exact hr.touch (Touch.setCell (bs := [p]) w1 ⟨p, 1, none⟩ _ (by simp)) fun x hx hm => hpa (mem_blkOf.2 ⟨x, hx, by simpa using hm⟩)
  · exact (Touch.of_below hb (p :: gc :: blkOf a)).andThen (Touch.setCell _ _ _ (by simp))
  · intro x hx
    rcases List.mem_cons.1 hx with rfl | hx
    · exact .inl (by simp)
    · rcases List.mem_cons.1 hx with rfl | hx
      · exact .inl (by simp)
      · exact .inr (hf x hx)

set_option maxRecDepth 100000 in
set_option maxHeartbeats 1600000 in
theorem rf_cancel (p : Nat) (ck : List Int) (L : List Rt) (node id : Int) (w : World) (D : List Nat) (h : RefA p ck L w D) (hbig : L.length ≤ 100000) :
    Calls Try.prog 11 #[.pointer (some ⟨p, 0, none⟩), .int .i64 node, .int .i64 id] w (RPost w D p (.returned (.int .i64 (rCancel ck L node id).1)) ck (rCancel ck L node id).2) := by
  have h' := h
  obtain ⟨gc, a, c, rfl, hf⟩ := h
  have HI := Lib.hid (rf_is p gc a c ck L node w hf)
  have HW := Lib.hid (rf_without p gc a c ck L node id w hf hbig)
  unfold rCancel
  cases hi : rIs ck node with
  | false =>
    rw [hi] at HI
    have HF := Lib.hid (rf_same h' (.returned (.int .i64 6)) (Below.refl _ _))
    simp only [Bool.false_eq_true, if_false]
    generalize RPost w _ p (.returned (.int .i64 6)) ck L = Q at *
    clear h' hf
    go_enter Try.func11, Try.ntmps11
    go_wp2_with fail
    refine HI.out.mono ?_
    rintro e _ ⟨rfl, rfl⟩
    go_wp2_with fail
    exact HF.out
  | true =>
    rw [hi] at HI
    simp only [if_true]
    have HE := Lib.hid (rf_same h' (.returned (.int .i64 6)) (w := w) (w' := w) (Below.refl _ _))
    have HS := Lib.hid fun w1 a' n' c' (hn : NewRow w (rWithout L node id) (.slice a' n' c') w1) => rf_store hf hn (.returned (.int .i64 0))
    have HC := Lib.hid fun w1 (hb : Below w.heap.size w w1) => (hf.below hb).cell1
    have HN := Lib.hid fun w1 (hb : Below w.heap.size w w1) => rf_same h' (.returned (.int .i64 6)) hb
    clear HE h' hf
    by_cases he : (rWithout L node id).length = L.length
    · simp only [if_pos he]
      generalize hQ : RPost w (p :: gc :: blkOf a) p (.returned (.int .i64 6)) ck L = Q at *
      clear hQ HS
      go_enter Try.func11, Try.ntmps11
      go_wp2_with fail
      refine HI.out.mono ?_
      rintro e _ ⟨rfl, rfl⟩
      go_wp2_with fail
      refine HW.out.mono ?_
      rintro e w2 ⟨v, rfl, a2, c2, rfl, hr, hb, hf2⟩
      have HF := Lib.hid (HN.out _ hb)
      obtain ⟨hc, _⟩ := HC.out _ hb
      rw [← he] at hc
      clear hr hb hf2
      generalize (rWithout L node id).length = n at *
      clear he
      go_wp2_with fail
      exact HF.out
    · simp only [if_neg he]
      generalize hQ : RPost w (p :: gc :: blkOf a) p (.returned (.int .i64 0)) ck (rWithout L node id) = Q at *
      clear hQ HN
      have hne : (((rWithout L node id).length : Int) == (L.length : Int)) = false := beq_eq_false_iff_ne.2 (by omega)
      go_enter Try.func11, Try.ntmps11
      go_wp2_with fail
      refine HI.out.mono ?_
      rintro e _ ⟨rfl, rfl⟩
      go_wp2_with fail
      refine HW.out.mono ?_
      rintro e w2 ⟨v, rfl, a2, c2, rfl, hr, hb, hf2⟩
      have HF := Lib.hid (HS.out _ _ _ _ ⟨a2, c2, rfl, hr, hb, hf2⟩)
      obtain ⟨hc, hfz⟩ := HC.out _ hb
      clear hr hb hf2 he
      generalize (rWithout L node id).length = n at *
      generalize L.length = n2 at *
      go_wp2_with fail
      exact HF.out
end Go.Proofs.Ytcolaafgjlaikaa
