/- The graph: Edge, Elder, way, Cyclic. -/
import Derived.Test.YtlmfpkfgjfdhgaaAJ
namespace Go.Proofs.Ytlmfpkfgjfdhgaa
open Go.RowKit

set_option maxRecDepth 100000 in
set_option maxHeartbeats 1600000 in
theorem gr_edge (p : Nat) (N E : Prs) (f t s1 s2 : Int) (w : World) (D : List Nat) (h : GrA p N E w D) (hne : f ≠ t) (h1 : stampG N f = some s1) (h2 : stampG N t = some s2) (hno : ∀ i (hi : i < E.length), E[i].1 ≠ f) (hN : N.length ≤ 1000) (hE : E.length ≤ 1000) :
    Calls Try.prog 16 #[.pointer (some ⟨p, 0, none⟩), .int .i64 f, .int .i64 t] w (GPost p N (E ++ [(f, t)]) w D (.returned (.int .i64 0))) := by
  have HS1 := Lib.hid (gr_stamp p N E f w D h hN)
  have HS2 := Lib.hid fun w1 (hb : Below w.heap.size w w1) => gr_stamp p N E t w1 D (((Step.of_below hb []).keep h (by simp)).1) hN
  have HH := Lib.hid fun w1 (hb : Below w.heap.size w w1) => gr_has_not p N E f t w1 D (((Step.of_below hb []).keep h (by simp)).1) hE hno
  rw [h1] at HS1
  rw [h2] at HS2
  unfold stampE at HS1 HS2
  obtain ⟨na, nc, ea, ec, hA⟩ := h
  have HM := Lib.hid (Mem.ofAll hA)
  have HF : Hid (∀ w' a' c', Mem w D w' [BlockA p #[.slice na N.length nc, .slice a' (E.length + 1) c'] 39, RowA 85 2 na N.length nc (edgeFlat N), RowA 44 2 a' (E.length + 1) c' (edgeFlat E ++ [.int .i64 f, .int .i64 t])] → GPost p N (E ++ [(f, t)]) w D (.returned (.int .i64 0)) (.returned (.int .i64 0)) w') := Lib.hid fun w' a' c' hm => by
    obtain ⟨D', h1, h2⟩ := hm.out
    exact ⟨rfl, D', ⟨na, nc, a', c', by rw [edgeFlat_snoc, List.length_append]; exact h1⟩, h2⟩
  generalize GPost p N (E ++ [(f, t)]) w D (.returned (.int .i64 0)) = R at *
  clear hA h1 h2 hno
  have hq : (f == t) = false := by simpa using hne
  clear hne
  go_enter Try.func16, Try.ntmps16
  go_wp2_with fail
  refine HS1.out.mono ?_
  rintro e w1 ⟨rfl, hb⟩
  have HB1 := Lib.hid hb
  clear hb
  go_wp2_with fail
  refine (HS2.out w1 HB1.out).mono ?_
  rintro e w2 ⟨rfl, hb⟩
  have HB2 := Lib.hid (HB1.out.trans (hb.mono HB1.out.size))
  clear hb
  go_wp2_with fail
  refine (HH.out w2 HB2.out).mono ?_
  rintro e w3 ⟨rfl, hb⟩
  have HB3 := Lib.hid (HB2.out.trans (hb.mono HB2.out.size))
  clear hb
  have HM1 := Lib.hid (HM.out.below HB3.out)
  clear HM
  obtain ⟨hc, -⟩ := Mem.cellAt (i := 1) [] (r := [RowA 85 2 na N.length nc (edgeFlat N), RowA 44 2 ea E.length ec (edgeFlat E)]) HM1.out rfl
  obtain ⟨b', cap', w4, hrun, hm⟩ := Mem.app1 (P := Try.prog) (t := 37) (ty := 37) [BlockA p #[.slice na N.length nc, .slice ea E.length ec] 39, RowA 85 2 na N.length nc (edgeFlat N)] (r := []) Try.underlying37 info44 (by rfl) (by decide) HM1.out [.int .i64 f, .int .i64 t] rfl (by simp [Value.oneCell']) (by omega) (by decide)
  have HRUN := Lib.hid hrun
  have HM2 := Lib.hid hm
  clear hrun hm
  obtain ⟨hc1, hf1⟩ := Mem.cellAt (i := 1) [] (r := [RowA 85 2 na N.length nc (edgeFlat N), RowA 44 2 b' (E.length + 1) cap' (edgeFlat E ++ [.int .i64 f, .int .i64 t])]) HM2.out rfl
  have HM3 := Lib.hid (HF.out _ _ _ (Mem.setAt (i := 1) [] (r := [RowA 85 2 na N.length nc (edgeFlat N), RowA 44 2 b' (E.length + 1) cap' (edgeFlat E ++ [.int .i64 f, .int .i64 t])]) HM2.out (.slice b' (E.length + 1) cap')))
  generalize E.length = n at *
  go_wp2_with ((at_builtin; refine wpList_appendR _ rfl (.tmp 41) (.tmp 45) 37 37 rfl (.slice ea n ec) (.slice (some ⟨w3.heap.size, 0, none⟩) 1 1) rfl rfl HRUN.out ?_))
  exact HM3.out
def elderB (s t a b : Int) : Bool := decide (s < t ∨ (s = t ∧ a < b))
theorem elderB_cases (s t a b : Int) : (decide (s < t) = true ∧ elderB s t a b = true) ∨ (decide (s < t) = false ∧ (s == t) = false ∧ elderB s t a b = false) ∨ (decide (s < t) = false ∧ (s == t) = true ∧ decide (a < b) = elderB s t a b) := by
  unfold elderB
  by_cases h1 : s < t
  · exact .inl ⟨decide_eq_true h1, decide_eq_true (.inl h1)⟩
  · by_cases h2 : s = t
    · refine .inr (.inr ⟨decide_eq_false h1, by simpa using h2, ?_⟩)
      rw [decide_eq_decide]; omega
    · exact .inr (.inl ⟨decide_eq_false h1, by simpa using h2, decide_eq_false (by omega)⟩)
set_option maxRecDepth 100000 in
set_option maxHeartbeats 1600000 in
theorem gr_elder (p : Nat) (N E : Prs) (a b s1 s2 : Int) (w : World) (D : List Nat) (h : GrA p N E w D) (h1 : stampG N a = some s1) (h2 : stampG N b = some s2) (hN : N.length ≤ 1000) :
    Calls Try.prog 17 #[.pointer (some ⟨p, 0, none⟩), .int .i64 a, .int .i64 b] w fun e w' => e = .returned (.bool (elderB s1 s2 a b)) ∧ Below w.heap.size w w' := by
  have HS1 := Lib.hid (gr_stamp p N E a w D h hN)
  have HS2 := Lib.hid fun w1 (hb : Below w.heap.size w w1) => gr_stamp p N E b w1 D (((Step.of_below hb []).keep h (by simp)).1) hN
  rw [h1] at HS1
  rw [h2] at HS2
  unfold stampE at HS1 HS2
  clear h h1 h2
  have hor := elderB_cases s1 s2 a b
  generalize elderB s1 s2 a b = r at *
  go_enter Try.func17, Try.ntmps17
  go_wp2_with fail
  refine HS1.out.mono ?_
  rintro e w1 ⟨rfl, hb⟩
  have HB1 := Lib.hid hb
  clear hb
  go_wp2_with fail
  refine (HS2.out w1 HB1.out).mono ?_
  rintro e w2 ⟨rfl, hb⟩
  have HB2 := Lib.hid (HB1.out.trans (hb.mono HB1.out.size))
  clear hb
  rcases hor with ⟨q1, rfl⟩ | ⟨q1, q2, rfl⟩ | ⟨q1, q2, rfl⟩
  all_goals
    go_wp2_with fail
    go_ret
    exact ⟨rfl, HB2.out⟩

-- the way from one to itself: there is none
theorem nodup_len : ∀ (S L : List Int), S.Nodup → (∀ x ∈ S, x ∈ L) → S.length ≤ L.length
  | [], _, _, _ => Nat.zero_le _
  | x :: r, L, hn, hs => by
    obtain ⟨n1, n2⟩ := List.nodup_cons.1 hn
    have hx := hs x (List.mem_cons_self ..)
    have h1 := nodup_len r (L.erase x) n2 fun y hy => (List.mem_erase_of_ne (a := y) (b := x) (fun e => n1 (by rw [← e]; exact hy))).2 (hs y (List.mem_cons_of_mem _ hy))
    have h2 := List.length_erase_of_mem hx
    have h3 : 0 < L.length := List.length_pos_of_mem hx
    simp only [List.length_cons]; omega
/-- what the search keeps. -/
structure Srch (E : Prs) (R : Int → Int → Prop) (from_ : Int) (S T : List Int) : Prop where
  nd : S.Nodup
  sub : ∀ x ∈ S, x ∈ E.map (·.2)
  gt : ∀ x ∈ T, x = from_ ∨ R from_ x
theorem Srch.len {E : Prs} {R : Int → Int → Prop} {f : Int} {S T : List Int} (h : Srch E R f S T) : S.length ≤ E.length := by
  have := nodup_len S _ h.nd h.sub
  simpa using this
theorem Srch.more {E : Prs} {R : Int → Int → Prop} {f : Int} {S T : List Int} {x y : Int} (h : Srch E R f S T) (hxy : (x, y) ∈ E) (hy : y ∉ S) (hr : R f y) : Srch E R f (S ++ [y]) (T ++ [y]) := by
  refine ⟨?_, fun z hz => ?_, fun z hz => ?_⟩
  · rw [List.nodup_append]
    exact ⟨h.nd, by simp, fun a ha b hb => by simp at hb; subst hb; exact fun e => hy (by rw [← e]; exact ha)⟩
  · rcases List.mem_append.1 hz with hz | hz
    · exact h.sub z hz
    · simp at hz; subst hz; exact List.mem_map.2 ⟨_, hxy, rfl⟩
  · rcases List.mem_append.1 hz with hz | hz
    · exact h.gt z hz
    · simp at hz; subst hz; exact .inr hr
def lenV : Value → Nat
  | .slice _ n _ => n
  | _ => 0
def intsV (l : List Int) : List Value := l.map (Value.int .i64)
abbrev WayM (w : World) (D : List Nat) (p : Nat) (N E : Prs) (a : Option Addr) (c : Nat) (S : List Int) (b : Option Addr) (d : Nat) (T : List Int) (wr : World) : Prop :=
  Mem w D wr [RowA 3 1 a S.length c (intsV S), QRowA 3 b T.length d (intsV T), GrA p N E]
theorem intsV_len (l : List Int) : (intsV l).length = l.length := by simp [intsV]
theorem intsV_get (l : List Int) (k : Nat) (h : k < (intsV l).length) : (intsV l)[k] = .int .i64 (l[k]'(by simpa [intsV] using h)) := by simp [intsV]
end Go.Proofs.Ytlmfpkfgjfdhgaa
