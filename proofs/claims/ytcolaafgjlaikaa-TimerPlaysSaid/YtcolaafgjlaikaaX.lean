/- Tick, New and the fixed calls. -/
import Derived.Test.YtcolaafgjlaikaaW
namespace Go.Proofs.Ytcolaafgjlaikaa
open Go.RowKit

set_option maxHeartbeats 800000 in
theorem tick_nil (i : Int) (w : World) : Calls Try.prog 12 #[.pointer none, .int .i64 i] w fun e w' => e = .returned (.tuple #[.slice none 0 0, .int .i64 1]) ∧ w = w' := by
  go_enter Try.func12, Try.ntmps12
  go_wp2_with fail
  refine (pt_skip_nil i 1 w).mono ?_
  rintro e w1 ⟨rfl, rfl⟩
  go_wp2_with fail
  go_ret2
  exact ⟨rfl, rfl⟩
set_option maxHeartbeats 800000 in
theorem tick_any (p : Nat) (i : Int) (w : World) (er : Int) (o : List Int) (m' : MB) (R : Ending → List Asn → World → Prop)
    (hS : Calls Try.prog 15 #[.pointer (some ⟨p, 0, none⟩), .int .i64 i, .int .i64 1] w fun e w' => ∃ As, ToBI p er o m' e As ∧ R e As w') :
    Calls Try.prog 12 #[.pointer (some ⟨p, 0, none⟩), .int .i64 i] w fun e w' => ∃ As, ToBI p er o m' e As ∧ R e As w' := by
  have HS := Lib.hid hS
  clear hS
  generalize hQ : (fun e w' => ∃ As, ToBI p er o m' e As ∧ R e As w') = Q at *
  have HQ := Lib.hid hQ
  clear hQ
  go_enter Try.func12, Try.ntmps12
  go_wp2_with fail
  refine HS.out.mono ?_
  intro e w1 hq
  rw [← HQ.out] at hq
  obtain ⟨As, ⟨a, c, rfl, hAs⟩, hR⟩ := hq
  have HR : Hid (Q (.returned (.tuple #[.slice a o.length c, .int .i64 er])) w1) := Lib.hid (by rw [← HQ.out]; exact ⟨As, ⟨a, c, rfl, hAs⟩, hR⟩)
  clear hR hAs
  go_wp2_with fail
  exact HR.out
theorem bd_tick (p : Nat) (m : MB) (hok : BOk m) (i : Int) (w : World) (D : List Nat) (h : BoardA p m w D) :
    Calls Try.prog 12 #[.pointer (some ⟨p, 0, none⟩), .int .i64 i] w fun e w' => ∃ As D', ToBI p (mSkip m i 1).1 (mSkip m i 1).2.1 (mSkip m i 1).2.2 e As ∧ All As w' D' ∧ Step w D w' D' :=
  (tick_any p i w _ _ _ (fun _ As w' => ∃ D', All As w' D' ∧ Step w D w' D') ((bd_skip p m hok i 1 w D h).mono fun e w' ⟨As, D', h1, h2⟩ => ⟨As, h1, D', h2⟩)).mono fun e w' ⟨As, h1, D', h2⟩ => ⟨As, D', h1, h2⟩

def m0 (n : Nat) : MB := List.replicate n (0, [])
theorem m0_ok (n : Nat) : BOk (m0 n) := fun x hx => by
  rw [List.eq_of_mem_replicate hx]
  exact ⟨Int.le_refl _, by decide, LOk.nil _ _⟩
theorem bd_new (n : Nat) (h1 : 1 ≤ n) (h7 : n ≤ 7) (w : World) : Calls Try.prog 7 #[.int .i64 n] w fun e w' => ∃ p D', e = .returned (.pointer (some ⟨p, 0, none⟩)) ∧ All [BoardA p (m0 n)] w' D' ∧ (∀ x ∈ D', w.heap.size ≤ x) ∧ Below w.heap.size w w' := by
  refine (pt_new n h1 h7 w).mono ?_
  rintro e w' ⟨p, N, rfl, hb, hbel, hp, hN⟩
  refine ⟨p, domB p N _, rfl, all_one ⟨N, _, rfl, hb, by simp [viewB, m0, node0]⟩, fun x hx => ?_, hbel⟩
  rcases mem_domB.1 hx with rfl | rfl | ⟨i, hi, hx⟩
  · exact hp
  · exact hN
  · rw [List.getElem_replicate] at hx; cases hx
theorem bd_timers (p : Nat) (m : MB) (hok : BOk m) (i : Int) (w : World) (D : List Nat) (h : BoardA p m w D) :
    Calls Try.prog 20 #[.pointer (some ⟨p, 0, none⟩), .int .i64 i] w (TimersPost w (sortI (mIds m i))) := by
  obtain ⟨N, ns, rfl, hb, rfl⟩ := h
  unfold mIds
  cases hn : nodeAt (viewB ns) i with
  | none =>
    rw [show sortI ([] : List Int) = [] from by simp [sortI]]
    exact pt_timers_out p N ns i (by have := nodeAt_none hn; rwa [view_len] at this) w hb
  | some x =>
    obtain ⟨j, rfl, hj, e⟩ := nodeAt_some hn
    have hx := hok x (nodeAt_mem hn)
    obtain ⟨hj', e1, e2⟩ := view_get hj
    rw [e] at e1 e2
    simp only
    rw [e2]
    exact pt_timers p N ns j hj' w hb (by have := hx.ok.len; rw [e2] at this; omega)
/-- the board alone, made since w0. -/
theorem Mem.get {w0 w : World} (l : List Asn) {A : Asn} {r : List Asn} [Stable A] [Stables l] [Stables r] (h : Mem w0 w (l ++ A :: r)) : ∃ D, A w D := by
  obtain ⟨D, hA, _⟩ := h.focus l
  exact ⟨D, hA⟩

theorem bd_set' {p : Nat} {m : MB} (hok : BOk m) {i id after every x : Int} {m' : MB} (he : mSet m i id after every = (x, m')) {w : World} {D : List Nat} (h : BoardA p m w D) :
    Calls Try.prog 8 #[.pointer (some ⟨p, 0, none⟩), .int .i64 i, .int .i64 id, .int .i64 after, .int .i64 every] w fun e w' => ∃ As D', ToB p (.returned (.int .i64 x)) m' e As ∧ All As w' D' ∧ Step w D w' D' := by
  have := bd_set p m hok i id after every w D h; rw [he] at this; exact this
theorem bd_cancel' {p : Nat} {m : MB} (hok : BOk m) {i id x : Int} {m' : MB} (he : mCancel m i id = (x, m')) {w : World} {D : List Nat} (h : BoardA p m w D) :
    Calls Try.prog 10 #[.pointer (some ⟨p, 0, none⟩), .int .i64 i, .int .i64 id] w fun e w' => ∃ As D', ToB p (.returned (.int .i64 x)) m' e As ∧ All As w' D' ∧ Step w D w' D' := by
  have := bd_cancel p m hok i id w D h; rw [he] at this; exact this
theorem bd_crash' {p : Nat} {m : MB} {i x : Int} {m' : MB} (he : mCrash m i = (x, m')) {w : World} {D : List Nat} (h : BoardA p m w D) :
    Calls Try.prog 16 #[.pointer (some ⟨p, 0, none⟩), .int .i64 i] w fun e w' => ∃ As D', ToB p (.returned (.int .i64 x)) m' e As ∧ All As w' D' ∧ Step w D w' D' := by
  have := bd_crash p m i w D h; rw [he] at this; exact this
theorem bd_skip' {p : Nat} {m : MB} (hok : BOk m) {i k x : Int} {o : List Int} {m' : MB} (he : mSkip m i k = (x, o, m')) {w : World} {D : List Nat} (h : BoardA p m w D) :
    Calls Try.prog 15 #[.pointer (some ⟨p, 0, none⟩), .int .i64 i, .int .i64 k] w fun e w' => ∃ As D', ToBI p x o m' e As ∧ All As w' D' ∧ Step w D w' D' := by
  have := bd_skip p m hok i k w D h; rw [he] at this; exact this
theorem bd_tick' {p : Nat} {m : MB} (hok : BOk m) {i x : Int} {o : List Int} {m' : MB} (he : mSkip m i 1 = (x, o, m')) {w : World} {D : List Nat} (h : BoardA p m w D) :
    Calls Try.prog 12 #[.pointer (some ⟨p, 0, none⟩), .int .i64 i] w fun e w' => ∃ As D', ToBI p x o m' e As ∧ All As w' D' ∧ Step w D w' D' := by
  have := bd_tick p m hok i w D h; rw [he] at this; exact this
theorem bd_next' {p : Nat} {m : MB} {i x : Int} {y : Bool} (he : mNext m i = (x, y)) {w : World} {D : List Nat} (h : BoardA p m w D) :
    Calls Try.prog 18 #[.pointer (some ⟨p, 0, none⟩), .int .i64 i] w fun e w' => e = .returned (.tuple #[.int .i64 x, .bool y]) ∧ w = w' := by
  have := bd_next p m i w D h; rw [he] at this; exact this
theorem bd_clock' {p : Nat} {m : MB} {i x : Int} (he : mClock m i = x) {w : World} {D : List Nat} (h : BoardA p m w D) :
    Calls Try.prog 22 #[.pointer (some ⟨p, 0, none⟩), .int .i64 i] w fun e w' => e = .returned (.int .i64 x) ∧ w = w' := by
  have := bd_clock p m i w D h; rw [he] at this; exact this
theorem bd_timers' {p : Nat} {m : MB} (hok : BOk m) {i : Int} {o : List Int} (he : sortI (mIds m i) = o) {w : World} {D : List Nat} (h : BoardA p m w D) :
    Calls Try.prog 20 #[.pointer (some ⟨p, 0, none⟩), .int .i64 i] w (TimersPost w o) := by
  have := bd_timers p m hok i w D h; rw [he] at this; exact this

theorem bok_of {m m' : MB} {x : Int} (h : BOk m) {i id after every : Int} (he : mSet m i id after every = (x, m')) : BOk m' := by have := mSet_ok h i id after every; rw [he] at this; exact this
theorem bok_skip {m m' : MB} {x : Int} {o : List Int} (h : BOk m) {i k : Int} (he : mSkip m i k = (x, o, m')) : BOk m' := by have := mSkip_ok h i k; rw [he] at this; exact this
abbrev b1 : MB := [(0, [⟨7, 2, 3⟩]), (0, [])]
abbrev b2 : MB := [(10, [⟨7, 11, 3⟩]), (0, [])]
abbrev b3 : MB := [(10, [⟨7, 11, 3⟩]), (0, [⟨5, 1, 0⟩])]
abbrev b4 : MB := [(10, [⟨7, 11, 3⟩]), (0, [⟨3, 1, 0⟩, ⟨5, 1, 0⟩])]
abbrev b5 : MB := [(10, [⟨7, 11, 3⟩]), (1, [])]
abbrev b6 : MB := [(10, []), (1, [])]
theorem f1 : mSet (m0 2) 0 7 2 3 = (0, b1) := by rfl
theorem f2 : mSkip b1 0 10 = (0, [7, 7, 7], b2) := by rfl
theorem f3 : mSet b2 1 5 1 0 = (0, b3) := by rfl
theorem f4 : mSet b3 1 3 1 0 = (0, b4) := by rfl
theorem f5 : mSkip b4 1 1 = (0, [3, 5], b5) := by rfl
theorem f6 : mSkip b5 0 257 = (1, [], b5) := by rfl
theorem f7 : mCancel b5 1 3 = (6, b5) := by rfl
theorem f8 : mSkip b5 2 1 = (6, [], b5) := by rfl
theorem f9 : mCrash b5 0 = (0, b6) := by rfl
theorem f10 : mSet b6 0 1 0 0 = (1, b6) := by rfl
theorem ids1 : sortI (mIds b5 0) = [7] := by decide +kernel
theorem ids2 : sortI (mIds b6 0) = [] := by decide +kernel

theorem ints_cells {w : World} {a : Option Addr} {c : Nat} {D : List Nat} {o : List Int} (h : IntsA a c o w D) (h0 : 0 < o.length) : ∃ g, a = some ⟨g, 0, none⟩ ∧ ∀ j (hj : j < o.length), w.cell? ⟨g, j, none⟩ = some (.int .i64 o[j]) := by
  obtain ⟨_, hr⟩ := h
  obtain ⟨g, e, _⟩ := hr.cellAt 0 (by rw [ints_len]; exact h0)
  refine ⟨g, e, fun j hj => ?_⟩
  obtain ⟨g', e', hc⟩ := hr.cellAt j (by rw [ints_len]; exact hj)
  rw [e] at e'
  simp only [Option.some.injEq, Addr.mk.injEq, and_true] at e'
  subst e'
  rw [hc]; simp [ints]

set_option maxRecDepth 100000 in
set_option maxHeartbeats 4000000 in
theorem fixed_any (w : World) : Calls Try.prog 6 #[] w fun e w' => e = .returned (.bool true) ∧ Below w.heap.size w w' := by
  have HN := Lib.hid (show Calls Try.prog 7 #[.int .i64 2] w _ from bd_new 2 (by decide) (by decide) w)
  have o0 := Lib.hid (m0_ok 2)
  have o1 := Lib.hid (bok_of o0.out f1)
  have o2 := Lib.hid (bok_skip o1.out f2)
  have o3 := Lib.hid (bok_of o2.out f3)
  have o4 := Lib.hid (bok_of o3.out f4)
  have o5 := Lib.hid (bok_skip o4.out f5)
  have o6 := Lib.hid (show BOk b6 from by have := mCrash_ok o5.out 0; rw [f9] at this; exact this)
  go_enter Try.func6, Try.ntmps6
  go_wp2_with fail
  refine HN.out.mono ?_
  rintro e w1 ⟨p, D1, rfl, hb, hd, hbel⟩
  have M1 := Lib.hid (show Mem w w1 [BoardA p (m0 2)] from (Mem.nil w).new hbel hb hd)
  clear hb hd hbel
  go_wp2_with fail
  refine (M1.out.call [] fun D h => bd_set' o0.out f1 h).mono ?_
  rintro e w2 ⟨As, ⟨rfl, rfl⟩, hm⟩
  have M2 := Lib.hid (show Mem w w2 [BoardA p b1] from hm)
  clear hm
  go_wp2_with fail
  obtain ⟨D2, hD2⟩ := M2.out.get []
  refine (bd_next' (x := 2) (y := true) rfl hD2).mono ?_
  clear hD2
  rintro e _ ⟨rfl, rfl⟩
  go_wp2_with fail
  refine (M2.out.call [] fun D h => bd_skip' o1.out f2 h).mono ?_
  rintro e w3 ⟨As, ⟨a1, c1, rfl, rfl⟩, hm⟩
  have M3 := Lib.hid (show Mem w w3 [BoardA p b2, IntsA a1 c1 [7, 7, 7]] from hm)
  clear hm
  go_wp2_with fail
  refine (M3.out.call [] fun D h => bd_set' o2.out f3 h).mono ?_
  rintro e w4 ⟨As, ⟨rfl, rfl⟩, hm⟩
  have M4 := Lib.hid (show Mem w w4 [BoardA p b3, IntsA a1 c1 [7, 7, 7]] from hm)
  clear hm
  go_wp2_with fail
  refine (M4.out.call [] fun D h => bd_set' o3.out f4 h).mono ?_
  rintro e w5 ⟨As, ⟨rfl, rfl⟩, hm⟩
  have M5 := Lib.hid (show Mem w w5 [BoardA p b4, IntsA a1 c1 [7, 7, 7]] from hm)
  clear hm
  go_wp2_with fail
  refine (M5.out.call [] fun D h => bd_tick' o4.out f5 h).mono ?_
  rintro e w6 ⟨As, ⟨a2, c2, rfl, rfl⟩, hm⟩
  have M6 := Lib.hid (show Mem w w6 [BoardA p b5, IntsA a2 c2 [3, 5], IntsA a1 c1 [7, 7, 7]] from hm)
  clear hm
  go_wp2_with fail
  refine (M6.out.call [] fun D h => bd_skip' o5.out f6 h).mono ?_
  rintro e w7 ⟨As, ⟨a3, c3, rfl, rfl⟩, hm⟩
  have M7 := Lib.hid (show Mem w w7 [BoardA p b5, IntsA a3 c3 [], IntsA a2 c2 [3, 5], IntsA a1 c1 [7, 7, 7]] from hm)
  clear hm
  go_wp2_with fail
  refine (M7.out.call [] fun D h => bd_cancel' o5.out f7 h).mono ?_
  rintro e w8 ⟨As, ⟨rfl, rfl⟩, hm⟩
  have M8 := Lib.hid (show Mem w w8 [BoardA p b5, IntsA a3 c3 [], IntsA a2 c2 [3, 5], IntsA a1 c1 [7, 7, 7]] from hm)
  clear hm
  go_wp2_with fail
  refine (M8.out.call [] fun D h => bd_tick' o5.out f8 h).mono ?_
  rintro e w9 ⟨As, ⟨a4, c4, rfl, rfl⟩, hm⟩
  have M9 := Lib.hid (show Mem w w9 [BoardA p b5, IntsA a4 c4 [], IntsA a3 c3 [], IntsA a2 c2 [3, 5], IntsA a1 c1 [7, 7, 7]] from hm)
  clear hm
  go_wp2_with fail
  refine (tick_nil 0 w9).mono ?_
  rintro e _ ⟨rfl, rfl⟩
  obtain ⟨D4, hD4⟩ := M9.out.get [BoardA p b5, IntsA a4 c4 [], IntsA a3 c3 [], IntsA a2 c2 [3, 5]]
  obtain ⟨D5, hD5⟩ := M9.out.get [BoardA p b5, IntsA a4 c4 [], IntsA a3 c3 []] (r := [IntsA a1 c1 [7, 7, 7]])
  obtain ⟨g1, rfl, hg1⟩ := ints_cells hD4 (by decide)
  obtain ⟨g2, rfl, hg2⟩ := ints_cells hD5 (by decide)
  have hx1 := hg1 2 (by decide)
  have hx2 := hg2 0 (by decide)
  simp only [List.getElem_cons_zero, List.getElem_cons_succ] at hx1 hx2
  clear hg1 hg2 hD4 hD5
  go_wp2_with fail
  clear hx1 hx2
  refine (pt_new_bad 0 (.inl (by decide)) w9).mono ?_
  rintro e _ ⟨rfl, rfl⟩
  have MM1 := Lib.hid (M9.out.drop [BoardA p b5] (r := [IntsA a3 c3 [], IntsA (some ⟨g2, 0, none⟩) c2 [3, 5], IntsA (some ⟨g1, 0, none⟩) c1 [7, 7, 7]]))
  have MM2 := Lib.hid (MM1.out.drop [BoardA p b5] (r := [IntsA (some ⟨g2, 0, none⟩) c2 [3, 5], IntsA (some ⟨g1, 0, none⟩) c1 [7, 7, 7]]))
  have MM3 := Lib.hid (MM2.out.drop [BoardA p b5] (r := [IntsA (some ⟨g1, 0, none⟩) c1 [7, 7, 7]]))
  have M10 := Lib.hid (show Mem w w9 [BoardA p b5] from MM3.out.drop [BoardA p b5] (r := []))
  clear MM1 MM2 MM3 M9 M8 M7 M6 M5 M4 M3 M2 M1
  obtain ⟨D6, hD6⟩ := M10.out.get []
  have HD6 := Lib.hid hD6
  clear hD6
  go_wp2_with fail
  refine (bd_clock' (x := 10) rfl HD6.out).mono ?_
  rintro e _ ⟨rfl, rfl⟩
  go_wp2_with fail
  refine (bd_timers' o5.out ids1 HD6.out).mono ?_
  rintro e w10 ⟨a5, c5, rfl, _, hbel⟩
  have M11 := Lib.hid (M10.out.below hbel)
  clear hbel
  go_wp2_with fail
  refine (M11.out.call [] fun D h => bd_crash' f9 h).mono ?_
  rintro e w11 ⟨As, ⟨rfl, rfl⟩, hm⟩
  have M12 := Lib.hid (show Mem w w11 [BoardA p b6] from hm)
  clear hm
  obtain ⟨D7, hD7⟩ := M12.out.get []
  have HD7 := Lib.hid hD7
  clear hD7
  go_wp2_with fail
  refine (bd_timers' o6.out ids2 HD7.out).mono ?_
  rintro e w12 ⟨a6, c6, rfl, _, hbel⟩
  have M13 := Lib.hid (M12.out.below hbel)
  clear hbel
  go_wp2_with fail
  refine (M13.out.call [] fun D h => bd_set' o6.out f10 h).mono ?_
  rintro e w13 ⟨As, ⟨rfl, rfl⟩, hm⟩
  have HB := Lib.hid (show Below w.heap.size w w13 from hm.bel)
  clear hm
  go_wp2_with fail
  go_ret
  exact ⟨rfl, HB.out⟩

end Go.Proofs.Ytcolaafgjlaikaa
