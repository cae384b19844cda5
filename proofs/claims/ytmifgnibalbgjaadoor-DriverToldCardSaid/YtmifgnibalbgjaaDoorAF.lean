/- DriverTold: for every input the law returns true, and each argument reads behind the call as it read before; the listed variables read as the program's own text lays them (the card ties them). -/
import Derived.Test.YtmifgnibalbgjaaDoorAE
import Derived.Test.YtmifgnibalbgjaaDoorCards
import Derived.Test.YtmifgnibalbgjaaDoorTie
import Derived.ProofKit
import Derived.LaidMore
import Derived.OpenShut
import Derived.SizedLaws
import Derived.Lib.LaidTab
import Derived.Stop.LaidErr
import Derived.SevenTiedAt
namespace Go.Proofs.YtmifgnibalbgjaaDoor
open Go.ChangeShapes Go.WideShapes Go.ChangeAt Go.RowKit
open Go.ChangeMaps (open_string shut_string)

theorem own : ownKnob Tryd.prog.godebug = none := by kernel_rfl
theorem laidOut : laidOutB Tryd.prog = true := by kernel_rfl
section
variable {H : Type} {enc : TypeId × Value → H} {W : World} {base : Nat} {spare : Nat → Bool} {held : Bool}
theorem weightsAll_mem {P : Program} {e : TypeId} : ∀ {l : List (DataW H)} {d : DataW H}, d ∈ l → ∀ n ∈ d.weights P e, n ∈ DataW.weightsAll P e l
  | d' :: r, d, hd, n, hn => by
    simp only [DataW.weightsAll, List.mem_append]
    rcases List.mem_cons.1 hd with rfl | h
    · exact Or.inl hn
    · exact Or.inr (weightsAll_mem h n hn)
/-- A slice that came in: each element's cells, what they read as, and that its weights are the slice's. -/
theorem open_elems_w {t e : TypeId} {a : Option Addr} {n c K : Nat} {d : DataW H} {p : List MemPlace} (ht : Tryd.prog.underlying t = some (.slice e)) (hK : Tryd.prog.cellsOf e = K) (hK0 : 0 < K)
    (h : DataW.Trod enc Tryd.prog W base spare held t (.slice a n c) d p) :
    n ≤ maxLen ∧ ∀ j, j < n → ∃ b off, a = some ⟨b, off, none⟩ ∧ ∃ cs m y, cs.length = K ∧ (∀ r v, cs[r]? = some v → W.cell? ⟨b, off + j * K + r, none⟩ = some v) ∧ DataW.trod enc Tryd.prog W base spare held m e cs = some y ∧ ∀ k ∈ y.1.weights Tryd.prog e, k ∈ d.weights Tryd.prog t := by
  obtain ⟨fuel, hf⟩ := h
  rcases Go.Deep.open_slice ht hf with ⟨hcs, _⟩ | ⟨x, len, cap, m, n', D, Pl, hcs, _, hl, hm, hmm, hxx, hx⟩
  · simp [Value.cells] at hcs
    obtain ⟨rfl, rfl, rfl⟩ := hcs
    exact ⟨Nat.zero_le _, fun j hj => by omega⟩
  · simp [Value.cells] at hcs
    obtain ⟨rfl, rfl, rfl⟩ := hcs
    refine ⟨by omega, fun j hj => ?_⟩
    obtain ⟨cs', h1, h2⟩ := hx j (by rw [hmm]; split <;> omega)
    rw [hK] at h1
    obtain ⟨_, hlen, hcell⟩ := World.cells?_some h1
    obtain ⟨cs0, k1, _⟩ := hx 0 (by rw [hmm]; split <;> omega)
    rw [hK] at k1
    obtain ⟨_, hlen0, hcell0⟩ := World.cells?_some k1
    have h0 := hcell0 0 (by omega)
    rw [List.getElem?_eq_getElem (by omega)] at h0
    have hs := addr_spot h0
    obtain ⟨b, off, sp⟩ := x
    have hs' : sp = none := by simpa [Addr.add] using hs
    subst hs'
    refine ⟨b, off, rfl, cs', n', (D j, Pl j), hlen, fun r v hr => ?_, h2, fun k hk => ?_⟩
    · have hr' : r < cs'.length := (List.getElem?_eq_some_iff.1 hr).1
      have := hcell r (by omega)
      rw [Addr.add_lit, Addr.add_lit] at this
      rw [this, hr]
    · simp only [Prod.mk.injEq] at hxx
      rw [hxx.1]
      simp only [DataW.weights, ht, List.mem_cons, List.mem_append]
      exact .inr (.inl (weightsAll_mem (List.mem_map.2 ⟨j, List.mem_range.2 hj, rfl⟩) k hk))
set_option maxRecDepth 100000 in
theorem open_reps_w {t e : TypeId} {a : Option Addr} {n c : Nat} {d : DataW H} {p : List MemPlace} {f0 f1 f2 f3 : Field} (ht : Tryd.prog.underlying t = some (.slice e)) (he : Tryd.prog.underlying e = some (.struct #[f0, f1, f2, f3])) (hK : Tryd.prog.cellsOf e = 4)
    (o0 : f0.offset = 0) (o1 : f1.offset = 1) (o2 : f2.offset = 2) (o3 : f3.offset = 3)
    (c0 : Tryd.prog.cellsOf f0.type = 1) (c1 : Tryd.prog.cellsOf f1.type = 1) (c2 : Tryd.prog.cellsOf f2.type = 1) (c3 : Tryd.prog.cellsOf f3.type = 1)
    (u0 : Tryd.prog.underlying f0.type = some (.int .i64)) (u1 : Tryd.prog.underlying f1.type = some (.int .i64)) (u2 : Tryd.prog.underlying f2.type = some (.string)) (u3 : Tryd.prog.underlying f3.type = some (.bool))
    (h : DataW.Trod enc Tryd.prog W base spare held t (.slice a n c) d p) (hw : ∀ k ∈ d.weights Tryd.prog t, k ≤ 140737488351232) : n ≤ maxLen ∧ ∃ l, RepsAt W a n l ∧ ∀ p ∈ l, p.v.size ≤ 140737488355328 := by
  obtain ⟨hn, hj⟩ := open_elems_w ht hK (by decide) h
  haveI : Inhabited Rep := ⟨⟨0, 0, ByteArray.empty, false⟩⟩
  obtain ⟨l, hl, hp⟩ := list_of n (fun j (x : Rep) => (∃ b off, a = some ⟨b, off, none⟩ ∧ (W.cell? ⟨b, off + j * 4, none⟩ = some (.int .i64 x.code) ∧ W.cell? ⟨b, off + j * 4 + 1, none⟩ = some (.int .i64 x.state) ∧ W.cell? ⟨b, off + j * 4 + 2, none⟩ = some (.string x.v) ∧ W.cell? ⟨b, off + j * 4 + 3, none⟩ = some (.bool x.h)) ∧ -9223372036854775808 ≤ x.code ∧ x.code ≤ 9223372036854775807 ∧ -9223372036854775808 ≤ x.state ∧ x.state ≤ 9223372036854775807 ∧ x.v.size ≤ maxLen) ∧ x.v.size ≤ 140737488355328) fun j hjn => by
    obtain ⟨b, off, ha, cs, m, y, hlen, hc, hy, hyw⟩ := hj j hjn
    obtain ⟨xs, k, _, hyx, _, hxl, hf⟩ := DataW.trod_struct he hy
    match cs, hlen with
    | [v0, v1, v2, v3], _ =>
      match xs, hxl with
      | [y0, y1, y2, y3], _ =>
        have g0 := hf 0 f0 rfl
        have g1 := hf 1 f1 rfl
        have g2 := hf 2 f2 rfl
        have g3 := hf 3 f3 rfl
        simp [o0, o1, o2, o3, c0, c1, c2, c3] at g0 g1 g2 g3
        obtain ⟨x0, e0, _, w0⟩ := DataW.trod_int u0 g0
        obtain ⟨x1, e1, _, w1⟩ := DataW.trod_int u1 g1
        obtain ⟨x2, e2, z2, w2⟩ := DataW.trod_string u2 g2
        obtain ⟨x3, e3, _⟩ := DataW.trod_bool u3 g3
        simp only [List.cons.injEq, and_true] at e0 e1 e2 e3
        subst e0 e1 e2 e3
        have hsz : x2.size ≤ 140737488355328 := by
          have h1 : x2.data.toList.length ∈ y.1.weights Tryd.prog e := by
            rw [hyx]
            simp only [DataW.weights, he]
            refine DataW.weights_mem_each (j := 2) (t := f2.type) (d := y2.1) rfl rfl _ ?_
            rw [z2]
            simp [DataW.weights]
          have h2 := hw _ (hyw _ h1)
          have h3 : x2.data.toList.length = x2.size := Array.length_toList
          omega
        exact ⟨⟨x0, x1, x2, x3⟩, ⟨b, off, ha, ⟨by simpa using hc 0 _ rfl, hc 1 _ rfl, hc 2 _ rfl, hc 3 _ rfl⟩, (i64_bd2 w0).1, (i64_bd2 w0).2, (i64_bd2 w1).1, (i64_bd2 w1).2, w2⟩, hsz⟩
  refine ⟨hn, l, ⟨hl.symm, fun j hj => (hp j hj).1⟩, fun p hpl => ?_⟩
  obtain ⟨j, hjl, rfl⟩ := List.getElem_of_mem hpl
  exact (hp j hjl).2
end
/-! ### What the listed variables give -/
theorem gPowT : (Tryd.prog.globals[2]?).map (·.type) = some 126 := by kernel_rfl
theorem gSynT : (Tryd.prog.globals[0]?).map (·.type) = some 95 := by kernel_rfl
theorem gRanT : (Tryd.prog.globals[1]?).map (·.type) = some 95 := by kernel_rfl
theorem star : "*" ++ "errors.errorString" = "*errors.errorString" := by decide
theorem row122 (u : TypeId) (h : Tryd.prog.typeName? 3 u = some "*errors.errorString") : u = 122 :=
  typeName_ptr_named (nm := "errors.errorString") (tp := 122) (by kernel_rfl) (by kernel_rfl) (by decide) u (star ▸ h)
theorem pow_eq : (Rows.laid_internal_strconv_uint64pow10 : DataW Unit) = Lib.tabData .u64 Lib.pow10Tab := by kernel_rfl
theorem libV_of {W : World} (h : laidMetH Tryd.prog Rows.driverToldRow.laid W) : LibV W := by
  rw [MakeChecks.laidMetH_plain _ _ _ (by kernel_rfl)] at h
  have h1 : laidMet Tryd.prog [("math/bits.deBruijn32tab", Rows.laid_math_bits_deBruijn32tab), ("math/bits.deBruijn64tab", Rows.laid_math_bits_deBruijn64tab), ("internal/strconv.uint64pow10", Rows.laid_internal_strconv_uint64pow10), ("strconv.ErrRange", Rows.laid_strconv_ErrRange), ("strconv.ErrSyntax", Rows.laid_strconv_ErrSyntax)] W := h
  have h2 := h1.tail.tail
  rw [pow_eq] at h2
  obtain ⟨a0, s0, hv0, -⟩ := laid_sentinel h2.tail gRan gRanT Tryd.underlying95 row122 Tryd.underlying122 Tryd.underlying124 rfl rfl Tryd.underlying9 (by kernel_rfl) (by kernel_rfl)
  obtain ⟨a1, s1, hv1, -⟩ := laid_sentinel h2.tail.tail gSyn gSynT Tryd.underlying95 row122 Tryd.underlying122 Tryd.underlying124 rfl rfl Tryd.underlying9 (by kernel_rfl) (by kernel_rfl)
  exact ⟨Lib.tabIs_of_head gPow gPowT Tryd.underlying126 Tryd.underlying107 (by kernel_rfl) (by kernel_rfl) h2, ⟨_, _, hv1⟩, ⟨_, _, hv0⟩⟩
/-- The door's own heap meets the condition. -/
theorem door_met (os : Os) (args : Array Value) : laidMetH Tryd.prog Rows.driverToldRow.laid ((World.doorLaid Tryd.prog 62 os).forCall (fun _ _ => 0) ⟨#[], args, []⟩).memory :=
  laidMetH_of_parts3 (fuel := 8) (laidMet_of_run' 8 (by kernel_rfl) (by kernel_rfl)) (by kernel_rfl) (by kernel_rfl)
set_option maxRecDepth 100000 in
theorem told_lifted (os : Os) (started : os.Started) (H : Type) (enc : TypeId × Value → H) :
    ReturnsInHanded {} Tryd.checked os 3 .any (fun w args => (Rows.driverToldSpec.pre enc Tryd.prog Tryd.f3 [] false w args ∧ laidMetH Tryd.prog Rows.driverToldRow.laid w) ∧ sizedMet enc Tryd.prog Tryd.f3 (OpenSpec.ofChange Rows.driverToldSpec) false w args)
      (Rows.driverToldSpec.post enc Tryd.prog Tryd.f3 false true false false) := by
  refine returnsInHanded_of_change_and (C := Tryd.checked) (X := fun w _ => laidMetH Tryd.prog Rows.driverToldRow.laid w) (fun _ _ _ hh h => h.of_heap hh) own started (by kernel_rfl) Tryd.func3
    (ChangeSpec.witness_shaped (enc := enc) (C := Tryd.checked) (os := os) (X := fun w _ => laidMetH Tryd.prog Rows.driverToldRow.laid w) false (World.doorLaid Tryd.prog 62 os) #[.int .i64 0, .int .i64 0, .int .i64 0, .slice none 0 0, .slice none 0 0] 8 rfl (World.shaped_of_RefB (by kernel_rfl) (by kernel_rfl)) (by kernel_rfl) (by kernel_rfl) (by kernel_rfl) (door_met os _)) ?_
  intro W base args ds gs before hval0 hW _ hsz0 hL _
  have hsz : (DataW.weightsEach Tryd.prog (Tryd.f3.params.toList ++ Rows.driverToldSpec.plain.varTypes Tryd.prog) (ds ++ gs)).all (· ≤ reachBytes) = true := hsz0
  clear hsz0
  have hval : ∀ (j : Nat) t v, Tryd.f3.params[j]? = some t → args[j]? = some v → Value.okWide Tryd.prog W .any base t v := hval0
  have hW' := hW
  obtain ⟨p, q, hA0, hV, rfl, hfz, hnd⟩ := hW
  have hA : DataW.TrodAll enc Tryd.prog W 0 (fun _ => true) true Tryd.f3.params.toList args.toList ds p := hA0
  rw [Tryd.params3] at hA hval hsz
  obtain ⟨v0, vs0, d0, ds0, p0, q0, hargs, rfl, rfl, h0, r0⟩ := trodAll_cons hA
  obtain ⟨v1, vs1, d1, ds1, p1, q1, rfl, rfl, rfl, h1, r1⟩ := trodAll_cons r0
  obtain ⟨v2, vs2, d2, ds2, p2, q2, rfl, rfl, rfl, h2, r2⟩ := trodAll_cons r1
  obtain ⟨v3, vs3, d3, ds3, p3, q3, rfl, rfl, rfl, h3, r3⟩ := trodAll_cons r2
  obtain ⟨v4, vs4, d4, ds4, p4, q4, rfl, rfl, rfl, h4, r4⟩ := trodAll_cons r3
  obtain ⟨rfl, rfl, rfl⟩ := trodAll_nil r4
  obtain rfl : args = #[v0, v1, v2, v3, v4] := by cases args; simp_all
  obtain ⟨rfl, rfl⟩ := trodVars_none hV
  have lt0 : ∀ x ∈ p0, x.block < W.heap.size := by obtain ⟨m, hm⟩ := h0; exact DataW.trod_lt m _ _ _ hm
  have lt1 : ∀ x ∈ p1, x.block < W.heap.size := by obtain ⟨m, hm⟩ := h1; exact DataW.trod_lt m _ _ _ hm
  have lt2 : ∀ x ∈ p2, x.block < W.heap.size := by obtain ⟨m, hm⟩ := h2; exact DataW.trod_lt m _ _ _ hm
  have lt3 : ∀ x ∈ p3, x.block < W.heap.size := by obtain ⟨m, hm⟩ := h3; exact DataW.trod_lt m _ _ _ hm
  have lt4 : ∀ x ∈ p4, x.block < W.heap.size := by obtain ⟨m, hm⟩ := h4; exact DataW.trod_lt m _ _ _ hm
  have k0 := h0
  have k1 := h1
  have k2 := h2
  have k3 := h3
  have k4 := h4
  obtain ⟨m0, rfl, -⟩ := open_int Tryd.underlying3 (hval 0 3 v0 rfl rfl) h0
  obtain ⟨m1, rfl, -⟩ := open_int Tryd.underlying3 (hval 1 3 v1 rfl rfl) h1
  obtain ⟨m2, rfl, -⟩ := open_int Tryd.underlying3 (hval 2 3 v2 rfl rfl) h2
  obtain ⟨a3, n3, c3, rfl⟩ := okWide_slice Tryd.underlying22 (hval 3 22 v3 rfl rfl)
  obtain ⟨a4, n4, c4, rfl⟩ := okWide_slice Tryd.underlying23 (hval 4 23 v4 rfl rfl)
  obtain ⟨hn3, l3, H3⟩ := open_ops Tryd.underlying22 Tryd.underlying60 (by kernel_rfl) rfl rfl rfl rfl (by kernel_rfl) (by kernel_rfl) (by kernel_rfl) (by kernel_rfl) Tryd.underlying3 Tryd.underlying9 Tryd.underlying9 Tryd.underlying3 h3
  obtain ⟨hn4, l4, H4, Z4⟩ := open_reps_w Tryd.underlying23 Tryd.underlying36 (by kernel_rfl) rfl rfl rfl rfl (by kernel_rfl) (by kernel_rfl) (by kernel_rfl) (by kernel_rfl) Tryd.underlying27 Tryd.underlying3 Tryd.underlying9 Tryd.underlying4 h4 (fun k hk => of_decide_eq_true (List.all_eq_true.1 hsz k (DataW.weights_mem_each (j := 4) (t := 23) (d := d4) rfl rfl k hk)))
  clear hA0 hval0
  refine (told_law m0 m1 m2 a3 a4 n3 c3 n4 c4 l3 l4 W H3 H4 hn3 hn4 (libV_of hL) Z4).mono fun e W' ⟨he, bel⟩ => ?_
  subst he
  exact ⟨_, rfl, _, _, _, [], _, [], hW', trodAll_mk1 (shut_bool Tryd.underlying4 _), (trodAll_cons_mk (Below.trod laidOut (by kernel_rfl) (of_decide_eq_true (by kernel_rfl)) k0 bel lt0) (trodAll_cons_mk (Below.trod laidOut (by kernel_rfl) (of_decide_eq_true (by kernel_rfl)) k1 bel lt1) (trodAll_cons_mk (Below.trod laidOut (by kernel_rfl) (of_decide_eq_true (by kernel_rfl)) k2 bel lt2) (trodAll_cons_mk (Below.trod laidOut (by kernel_rfl) (of_decide_eq_true (by kernel_rfl)) k3 bel lt3) (trodAll_cons_mk (Below.trod laidOut (by kernel_rfl) (of_decide_eq_true (by kernel_rfl)) k4 bel lt4) trodAll_mk0))))), rfl, bel.frame _, fun h => by cases h⟩
theorem told_holds : Rows.DriverToldSaid :=
  OpenClaim.holds_of_wide 3 Tryd.f3 rfl rfl rfl rfl rfl rfl rfl ⟨rfl, rfl, rfl, rfl, rfl⟩ rfl rfl rfl rfl rfl (by kernel_rfl) Tryd.func3 (by kernel_rfl)
    (of_decide_eq_true (by kernel_rfl)) (by unfold Func.isWrapper; first | (rw [if_pos (by decide +kernel)]; kernel_rfl) | (rw [if_neg (by decide +kernel)]; exact ⟨rfl, rfl⟩))
    (fun os started H enc _ => told_lifted os started H enc)
end Go.Proofs.YtmifgnibalbgjaaDoor
