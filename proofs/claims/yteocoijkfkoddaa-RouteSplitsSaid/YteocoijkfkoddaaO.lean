/- RouteSplits: for every input the law returns true, and each argument reads behind the call as it read before. -/
import Derived.Test.YteocoijkfkoddaaN
namespace Go.Proofs.Yteocoijkfkoddaa
open Go.ChangeShapes Go.WideShapes Go.ChangeAt Go.RowKit
open Go.ChangeMaps (open_string shut_string)

theorem open_strs_cap {H : Type} {P : Program} {enc : TypeId × Value → H} {W : World} {base : Nat} {t e : TypeId} {a : Option Addr} {n c : Nat} {d : DataW H} {p : List MemPlace}
    (ht : P.underlying t = some (.slice e)) (he : P.underlying e = some .string) (hc : P.cellsOf e = 1)
    (h : DataW.Trod enc P W base (fun _ => true) true t (.slice a n c) d p) : n ≤ c ∧ c ≤ maxLen := by
  obtain ⟨fuel, hf⟩ := h
  rcases open_strings ht he hc hf with ⟨hcs, _⟩ | ⟨x, l, c', ss, hcs, _, hl, hm, hz, _, hcell, _⟩
  · simp [Value.cells] at hcs
    obtain ⟨rfl, rfl, rfl⟩ := hcs
    exact ⟨Nat.le_refl _, Nat.zero_le _⟩
  · simp [Value.cells] at hcs
    obtain ⟨rfl, rfl, rfl⟩ := hcs
    exact ⟨hl, hm⟩

theorem splits_law (a : Option Addr) (n c : Nat) (ss : List ByteArray) (key other : ByteArray) (w : World) (hnc : n ≤ c) (hcm : c ≤ maxLen) (h : StrsAt w a n ss) :
    Calls Try.prog 4 #[.slice a n c, .string key, .string other] w fun e w' => e = .returned (.bool true) ∧ Keep w w' := by
  have hn : n ≤ maxLen := Nat.le_trans hnc hcm
  cases hf : fewL ss 7 with
  | false => exact splits_far a n c ss key other w hn h (.inl hf)
  | true =>
    by_cases hk : 100 < (key.size : Int)
    · exact splits_far a n c ss key other w hn h (.inr (.inl hk))
    by_cases ho : 100 < (other.size : Int)
    · exact splits_far a n c ss key other w hn h (.inr (.inr ho))
    by_cases he : rightL ss = 0
    · obtain rfl : n = ss.length := h.1
      have h7 : ss.length ≤ 7 := by
        by_cases h7 : 7 < ss.length
        · rw [rightL, if_pos h7] at he; exact absurd he (by decide)
        · omega
      cases hb : badStr key with
      | true => exact splits_bad a _ c ss key other w hn h hf hk ho he h7 hb
      | false =>
        cases hs : isSplit ss key with
        | true => exact splits_is a c ss key other w hnc hcm h hf hk ho he h7 hb hs
        | false =>
          by_cases e7 : ss.length = 7
          · cases hof : ofL ss key with
            | zero => exact splits_not_zf a c ss key other w hnc hcm h hf hk ho he hb hs e7 hof
            | succ m => exact splits_not_sf a c ss key other w hnc hcm h hf hk ho he hb hs e7 m hof
          · have h6 : ss.length ≤ 6 := by omega
            cases hof : ofL ss key with
            | zero =>
              rcases Nat.eq_zero_or_pos c with hc0 | hc0
              · exact splits_not_zo0 a c ss key other w hnc hcm h hf hk ho he hb hs h6 hof hc0
              · exact splits_not_zo a c ss key other w hnc hcm h hf hk ho he hb hs h6 hof hc0
            | succ m => exact splits_not_so a c ss key other w hnc hcm h hf hk ho he hb hs h6 m hof
    · exact splits_err a n c ss key other w hn h hf hk ho he

set_option maxRecDepth 100000 in
theorem splits_lifted (os : Os) (started : os.Started) (H : Type) (enc : TypeId × Value → H) :
    ReturnsInHanded {} Try.checked os 4 .any (Rows.routeSplitsSpec.pre6 enc Try.prog Try.f4 Rows.routeSplitsRow.domain false) (Rows.routeSplitsSpec.post enc Try.prog Try.f4 false true false false) := by
  refine returnsInHanded_of_change (C := Try.checked) own started (by kernel_rfl) Try.func4
    (ChangeSpec.witness6 (enc := enc) (C := Try.checked) false ⟨#[], #[.slice none 0 0, .string ⟨#[]⟩, .string ⟨#[]⟩], []⟩ 8 (by kernel_rfl) (by kernel_rfl) (by kernel_rfl) (by kernel_rfl)) ?_
  intro W base args ds gs before hval0 hW hcnd _
  have hval : ∀ (j : Nat) t v, Try.f4.params[j]? = some t → args[j]? = some v → Value.okWide Try.prog W .any base t v := hval0
  have hW' := hW
  obtain ⟨p, q, hA0, hV, rfl, hfz, hnd⟩ := hW
  have hA : DataW.TrodAll enc Try.prog W 0 (fun _ => true) true Try.f4.params.toList args.toList ds p := hA0
  rw [Try.params4] at hA hval
  obtain ⟨v0, vs0, d0, ds0, p0, q0, hargs, rfl, rfl, h0, r0⟩ := trodAll_cons hA
  obtain ⟨v1, vs1, d1, ds1, p1, q1, rfl, rfl, rfl, h1, r1⟩ := trodAll_cons r0
  obtain ⟨v2, vs2, d2, ds2, p2, q2, rfl, rfl, rfl, h2, r2⟩ := trodAll_cons r1
  obtain ⟨rfl, rfl, rfl⟩ := trodAll_nil r2
  obtain rfl : args = #[v0, v1, v2] := by cases args; simp_all
  obtain ⟨rfl, rfl⟩ := trodVars_none hV
  obtain ⟨a0, len0, cap0, rfl⟩ := okWide_slice Try.underlying22 (hval 0 22 v0 rfl rfl)
  have lt0 : ∀ x ∈ p0, x.block < W.heap.size := by obtain ⟨m, hm⟩ := h0; exact DataW.trod_lt m _ _ _ hm
  have k0 := h0
  obtain ⟨ss, hs, hn⟩ := open_strs Try.underlying22 Try.underlying9 (by kernel_rfl) h0
  obtain ⟨hnc, hcm⟩ := open_strs_cap Try.underlying22 Try.underlying9 (by kernel_rfl) h0
  have lt1 : ∀ x ∈ p1, x.block < W.heap.size := by obtain ⟨m, hm⟩ := h1; exact DataW.trod_lt m _ _ _ hm
  have k1 := h1
  obtain ⟨s1, rfl, e1, e2, _⟩ := open_string Try.underlying9 (hval 1 9 v1 rfl rfl) h1
  have lt2 : ∀ x ∈ p2, x.block < W.heap.size := by obtain ⟨m, hm⟩ := h2; exact DataW.trod_lt m _ _ _ hm
  have k2 := h2
  obtain ⟨s2, rfl, e3, e4, _⟩ := open_string Try.underlying9 (hval 2 9 v2 rfl rfl) h2
  clear hA0 hval0
  refine (splits_law a0 len0 cap0 ss s1 s2 W hnc hcm hs).mono fun e W' ⟨he, bel⟩ => ?_
  subst he
  exact ⟨_, rfl, _, _, _, [], _, [], hW', trodAll_mk1 (shut_bool Try.underlying4 _), (trodAll_cons_mk (Below.trod laidOut (by kernel_rfl) (of_decide_eq_true (by kernel_rfl)) k0 bel lt0) (trodAll_cons_mk (Below.trod laidOut (by kernel_rfl) (of_decide_eq_true (by kernel_rfl)) k1 bel lt1) (trodAll_cons_mk (Below.trod laidOut (by kernel_rfl) (of_decide_eq_true (by kernel_rfl)) k2 bel lt2) trodAll_mk0))), rfl, bel.frame _, fun h => by cases h⟩

theorem splits_holds : Rows.RouteSplitsSaid :=
  OpenClaim.holds_of_wide 4 Try.f4 rfl rfl rfl rfl rfl rfl rfl ⟨rfl, rfl, rfl, rfl, rfl⟩ rfl rfl rfl rfl rfl (by kernel_rfl) Try.func4 (by kernel_rfl)
    (of_decide_eq_true (by kernel_rfl)) (by unfold Func.isWrapper; first | (rw [if_pos (by decide +kernel)]; kernel_rfl) | (rw [if_neg (by decide +kernel)]; exact ⟨rfl, rfl⟩))
    (fun os started H enc _ => splits_lifted os started H enc)
#print axioms splits_holds
end Go.Proofs.Yteocoijkfkoddaa
