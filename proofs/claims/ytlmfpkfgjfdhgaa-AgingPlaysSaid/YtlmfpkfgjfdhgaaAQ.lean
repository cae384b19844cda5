/- The reference's table: place, Holder, Holds, Elder. -/
import Derived.Test.YtlmfpkfgjfdhgaaAE
import Derived.Test.YtlmfpkfgjfdhgaaMem2
namespace Go.Proofs.Ytlmfpkfgjfdhgaa
open Go.RowKit

/-- The reference's table. -/
def RefA (p : Nat) (wd : Bool) (M : List Mb) (K : List Lk) : Asn := fun w D => ∃ la lc ka kc, All [BlockA p #[.bool wd, .slice la M.length lc, .slice ka K.length kc] 53, RowA 61 4 la M.length lc (mbFlat M), RowA 91 2 ka K.length kc (lkFlat K)] w D
instance {p : Nat} {wd : Bool} {M : List Mb} {K : List Lk} : Stable (RefA p wd M K) where
  lt := fun ⟨_, _, _, _, h⟩ => (allStable).lt h
  keep := fun ⟨la, lc, ka, kc, h⟩ hk => ⟨la, lc, ka, kc, (allStable).keep h hk⟩
section
variable {w : World} {D : List Nat} {p : Nat} {wd : Bool} {M : List Mb} {K : List Lk}
theorem RefA.parts (h : RefA p wd M K w D) : ∃ la lc ka kc, w.cell? ⟨p, 0, none⟩ = some (.bool wd) ∧ w.cell? ⟨p, 1, none⟩ = some (.slice la M.length lc) ∧ w.cell? ⟨p, 2, none⟩ = some (.slice ka K.length kc) ∧ Row w 61 4 la M.length lc (mbFlat M) ∧ Row w 91 2 ka K.length kc (lkFlat K) := by
  obtain ⟨la, lc, ka, kc, hA⟩ := h
  have Mm := Mem.ofAll hA
  exact ⟨la, lc, ka, kc, (Mem.cellAt (i := 0) [] (r := [RowA 61 4 la M.length lc (mbFlat M), RowA 91 2 ka K.length kc (lkFlat K)]) Mm rfl).1, (Mem.cellAt (i := 1) [] (r := [RowA 61 4 la M.length lc (mbFlat M), RowA 91 2 ka K.length kc (lkFlat K)]) Mm rfl).1, (Mem.cellAt (i := 2) [] (r := [RowA 61 4 la M.length lc (mbFlat M), RowA 91 2 ka K.length kc (lkFlat K)]) Mm rfl).1,
    Mem.rowAt [BlockA p #[.bool wd, .slice la M.length lc, .slice ka K.length kc] 53] (r := [RowA 91 2 ka K.length kc (lkFlat K)]) Mm,
    Mem.rowAt [BlockA p #[.bool wd, .slice la M.length lc, .slice ka K.length kc] 53, RowA 61 4 la M.length lc (mbFlat M)] (r := []) Mm⟩
theorem RefA.below {w' : World} (h : RefA p wd M K w D) (b : Below w.heap.size w w') : RefA p wd M K w' D := ((Step.of_below b []).keep h (by simp)).1
end
def placeI (M : List Mb) (id : Int) : Int := if hasM M id then (posM M id : Int) else -1
theorem placeI_at {M : List Mb} (hs : SortM M) {id : Int} {k : Nat} (hk : k < M.length) (e : M[k].id = id) : placeI M id = k := by
  have hh : hasM M id = true := List.any_eq_true.2 ⟨_, List.getElem_mem hk, by simpa using e⟩
  obtain ⟨h1, h2⟩ := (hasM_iff hs id).1 hh
  unfold placeI
  rw [if_pos hh, sortM_inj hs h1 hk (h2.trans e.symm)]
theorem placeI_none {M : List Mb} {id : Int} (h : ∀ i (hi : i < M.length), M[i].id ≠ id) : placeI M id = -1 := by
  unfold placeI
  rw [if_neg]
  intro hh
  obtain ⟨m, hm, e⟩ := List.any_eq_true.1 hh
  obtain ⟨i, hi, rfl⟩ := List.getElem_of_mem hm
  exact h i hi (by simpa using e)
def holdI (K : List Lk) (key : ByteArray) : Int := if hasK K key then holdK K key else -1
theorem holdI_at {K : List Lk} (hs : SortK K) {key : ByteArray} {k : Nat} (hk : k < K.length) (e : K[k].key = key) : holdI K key = K[k].holder := by
  have hh : hasK K key = true := List.any_eq_true.2 ⟨_, List.getElem_mem hk, by simpa using e⟩
  obtain ⟨h1, h2⟩ := (hasK_iff hs key).1 hh
  have h3 := sortK_inj hs h1 hk (h2.trans e.symm)
  unfold holdI holdK
  simp only [hh, if_true, h3]
  simp [hk]
theorem holdI_none {K : List Lk} {key : ByteArray} (h : ∀ i (hi : i < K.length), K[i].key ≠ key) : holdI K key = -1 := by
  unfold holdI
  rw [if_neg]
  intro hh
  obtain ⟨m, hm, e⟩ := List.any_eq_true.1 hh
  obtain ⟨i, hi, rfl⟩ := List.getElem_of_mem hm
  exact h i hi (by simpa using e)
set_option maxRecDepth 100000 in
set_option maxHeartbeats 1600000 in
theorem rf_place (p : Nat) (wd : Bool) (M : List Mb) (K : List Lk) (id : Int) (w : World) (D : List Nat) (h : RefA p wd M K w D) (hs : SortM M) (hbig : M.length ≤ 1000) :
    Calls Try.prog 44 #[.pointer (some ⟨p, 0, none⟩), .int .i64 id] w fun e w' => e = .returned (.int .i64 (placeI M id)) ∧ Below w.heap.size w w' := by
  obtain ⟨la, lc, ka, kc, -, hc, -, hr, -⟩ := h.parts
  have HR := Lib.hid hr
  have HT := Lib.hid fun (k : Nat) (hk : k < M.length) => placeI_at hs (id := id) hk
  have HF := Lib.hid fun h => placeI_none (M := M) (id := id) h
  clear h hr hs
  generalize placeI M id = st at *
  generalize hn : M.length = n at hc hbig
  have HN := Lib.hid hn
  clear hn
  go_enter Try.func44, Try.ntmps44
  go_wp2_with fail
  go_loopw [12] (fun j wr => ∃ k : Nat, k ≤ n ∧ j = .int .i64 k ∧ Hid (Below w.heap.size w wr ∧ ∀ i (hi : i < M.length), i < k → M[i].id ≠ id)) (fun j _ => n - (intOf j).toNat)
  case atStart => exact ⟨0, Nat.zero_le _, rfl, Lib.hid ⟨Below.refl _ _, fun _ _ h => by omega⟩⟩
  case round =>
    obtain ⟨k, hk, rfl, hS⟩ := hrel
    obtain ⟨hb, hall⟩ := hS.out
    have HB := Lib.hid hb
    have HALL := Lib.hid hall
    clear hS hall
    by_cases hlt : k < n
    · have hk2 : k < M.length := by rw [HN.out]; exact hlt
      obtain ⟨g, rfl, hcs⟩ := mbAt_row HR.out k hk2
      obtain ⟨hx0, hx1, hx2, hx3⟩ := hcs.below hb
      have HX := Lib.hid fun e => HT.out k hk2 e
      have HNX : Hid (M[k].id ≠ id → ∀ i (hi : i < M.length), i < k + 1 → M[i].id ≠ id) := Lib.hid fun h i hi hik => by
        by_cases e : i = k
        · subst e; exact h
        · exact HALL.out i hi (by omega)
      have HB2 := Lib.hid (hb.trans ((bel_new wr (.cells #[.int .i64 M[k].id, .int .i64 M[k].stamp, .bool M[k].waits, .string M[k].key] 61)).mono hb.size))
      clear hb HALL HT HF hcs
      generalize M[k] = x at *
      obtain ⟨xi, xs, xw, xy⟩ := x
      simp only at hx0 hx1 hx2 hx3 HX HNX HB2
      by_cases he : xi = id
      · have h1 := HX.out he
        subst h1
        have hq : (xi == id) = true := by simpa using he
        clear HX HNX he
        go_wp2_with fail
        go_ret
        exact ⟨rfl, HB2.out⟩
      · have hq : (xi == id) = false := by simpa using he
        have HN2 := Lib.hid (HNX.out he)
        clear HX HNX he
        go_wp2_with fail
        go_roundw
        case rel => exact ⟨k + 1, by omega, by go_num, Lib.hid ⟨HB2.out, HN2.out⟩⟩
        case measure => simp [intOf]; omega
    · have h1 := HF.out fun i hi => HALL.out i hi (by have := HN.out; omega)
      subst h1
      clear HF HT hb
      go_wp2_with fail
      go_ret
      exact ⟨rfl, HB.out⟩
set_option maxRecDepth 100000 in
set_option maxHeartbeats 1600000 in
theorem rf_holder (p : Nat) (wd : Bool) (M : List Mb) (K : List Lk) (key : ByteArray) (w : World) (D : List Nat) (h : RefA p wd M K w D) (hs : SortK K) (hbig : K.length ≤ 100000) :
    Calls Try.prog 24 #[.pointer (some ⟨p, 0, none⟩), .string key] w fun e w' => e = .returned (.int .i64 (holdI K key)) ∧ Below w.heap.size w w' := by
  obtain ⟨la, lc, ka, kc, -, -, hc, -, hr⟩ := h.parts
  have HR := Lib.hid hr
  have HT := Lib.hid fun (k : Nat) (hk : k < K.length) => holdI_at hs (key := key) hk
  have HF := Lib.hid fun h => holdI_none (K := K) (key := key) h
  clear h hr hs
  generalize holdI K key = st at *
  generalize hn : K.length = n at hc hbig
  have HN := Lib.hid hn
  clear hn
  go_enter Try.func24, Try.ntmps24
  go_wp2_with fail
  go_loopw [12] (fun j wr => ∃ k : Nat, k ≤ n ∧ j = .int .i64 k ∧ Hid (Below w.heap.size w wr ∧ ∀ i (hi : i < K.length), i < k → K[i].key ≠ key)) (fun j _ => n - (intOf j).toNat)
  case atStart => exact ⟨0, Nat.zero_le _, rfl, Lib.hid ⟨Below.refl _ _, fun _ _ h => by omega⟩⟩
  case round =>
    obtain ⟨k, hk, rfl, hS⟩ := hrel
    obtain ⟨hb, hall⟩ := hS.out
    have HB := Lib.hid hb
    have HALL := Lib.hid hall
    clear hS hall
    by_cases hlt : k < n
    · have hk2 : k < K.length := by rw [HN.out]; exact hlt
      obtain ⟨g, rfl, hcs⟩ := lkAt_row HR.out k hk2
      obtain ⟨hx0, hx1⟩ := hcs.below hb
      have HX := Lib.hid fun e => HT.out k hk2 e
      have HNX : Hid (K[k].key ≠ key → ∀ i (hi : i < K.length), i < k + 1 → K[i].key ≠ key) := Lib.hid fun h i hi hik => by
        by_cases e : i = k
        · subst e; exact h
        · exact HALL.out i hi (by omega)
      have HB2 := Lib.hid (hb.trans ((bel_new wr (.cells #[.string K[k].key, .int .i64 K[k].holder] 91)).mono hb.size))
      clear hb HALL HT HF hcs
      generalize K[k] = x at *
      obtain ⟨xy, xh⟩ := x
      simp only at hx0 hx1 HX HNX HB2
      by_cases he : xy = key
      · have h1 := HX.out he
        subst h1
        have hq : (xy.toList == key.toList) = true := by simp [he]
        clear HX HNX he
        go_wp2_with fail
        go_ret
        exact ⟨rfl, HB2.out⟩
      · have hq : (xy.toList == key.toList) = false := beq_eq_false_iff_ne.2 (fun e => he (toList_inj e))
        have HN2 := Lib.hid (HNX.out he)
        clear HX HNX he
        go_wp2_with fail
        go_roundw
        case rel => exact ⟨k + 1, by omega, by go_num, Lib.hid ⟨HB2.out, HN2.out⟩⟩
        case measure => simp [intOf]; omega
    · have h1 := HF.out fun i hi => HALL.out i hi (by have := HN.out; omega)
      subst h1
      clear HF HT hb
      go_wp2_with fail
      go_ret
      exact ⟨rfl, HB.out⟩

set_option maxRecDepth 100000 in
set_option maxHeartbeats 1600000 in
theorem rf_holds0 (p : Nat) (wd : Bool) (M : List Mb) (K : List Lk) (id : Int) (w : World) (ka : Option Addr) (kc : Nat) (hc0 : w.cell? ⟨p, 2, none⟩ = some (.slice ka K.length kc)) (hr0 : Row w 91 2 ka K.length kc (lkFlat K)) (hbig : K.length ≤ 100000) :
    Calls Try.prog 29 #[.pointer (some ⟨p, 0, none⟩), .int .i64 id] w (fun e w' => ∃ v, e = .returned v ∧ NewRow 9 1 w ((K.filter fun t => t.holder == id).flatMap fun t => [.string t.key]) (K.filter fun t => t.holder == id).length v w') := by
  have hc := hc0
  have HR := Lib.hid hr0
  clear hc0 hr0
  have HS := Lib.hid fun w1 v (hn : NewRow 9 1 w ((((K).take (K).length).filter fun t => t.holder == id).flatMap fun t => [.string t.key]) ((((K).take (K).length).filter fun t => t.holder == id)).length v w1) => (show (∃ v', Ending.returned v = .returned v' ∧ NewRow 9 1 w ((K.filter fun t => t.holder == id).flatMap fun t => [.string t.key]) (K.filter fun t => t.holder == id).length v' w1) from ⟨v, rfl, by rw [List.take_length] at hn; exact hn⟩)
  generalize hQ : (fun e w' => ∃ v, e = Ending.returned v ∧ NewRow 9 1 w ((K.filter fun t => t.holder == id).flatMap fun t => [.string t.key]) (K.filter fun t => t.holder == id).length v w') = R
  have HQ : Hid (∀ v w', (∃ v', Ending.returned v = .returned v' ∧ NewRow 9 1 w ((K.filter fun t => t.holder == id).flatMap fun t => [.string t.key]) (K.filter fun t => t.holder == id).length v' w') → R (.returned v) w') := Lib.hid fun v w' h => by rw [← hQ]; exact h
  clear hQ
  have HS2 := Lib.hid fun w1 v hn => HQ.out v w1 (HS.out w1 v hn)
  clear HS HQ
  generalize hLL : K = L at *
  clear hLL
  generalize hn2 : L.length = n at hc hbig HS2
  have HN := Lib.hid hn2
  clear hn2
  go_enter Try.func29, Try.ntmps29
  go_wp2_with fail
  go_loopw [5, 13] (fun v j wr => ∃ k : Nat, k ≤ n ∧ j = .int .i64 k ∧ Hid (NewRow 9 1 w (((L.take k).filter fun t => t.holder == id).flatMap fun t => [.string t.key]) ((L.take k).filter fun t => t.holder == id).length v wr)) (fun _ j _ => n - (intOf j).toNat)
  case atStart => exact ⟨0, Nat.zero_le _, rfl, Lib.hid (NewRow.nil _ _ w)⟩
  case round =>
    obtain ⟨k, hk, rfl, hrl⟩ := hrel
    by_cases hlt : k < n
    · obtain ⟨ao, co, rfl, hrow, hb, hf⟩ := hrl.out
      have hk2 : k < L.length := by rw [HN.out]; exact hlt
      obtain ⟨g, rfl, hcs⟩ := lkAt_row HR.out k hk2
      obtain ⟨hx0, hx1⟩ := hcs.below hb
      have hol : ((L.take k).filter fun t => t.holder == id).length ≤ 100000 := Nat.le_trans (List.length_filter_le _ _) (by rw [List.length_take]; omega)
      have HFT := Lib.hid (filter_take_succ (fun t : Lk => t.holder == id) L k hk2)
      have HNR := Lib.hid (NewRow.below hrl.out (bel_new wr (.cells #[.string L[k].key, .int .i64 L[k].holder] 91)))
      have HAP := Lib.hid fun vs (hv : vs.length = 1) (ho : ∀ u ∈ vs, u.oneCell' = true) => HNR.out.app (P := Try.prog) Try.underlying47 info9 (z0 := .string ⟨#[]⟩) rfl (by decide) vs hv ho (by omega) (by decide) 47
      rw [show (wr.alloc (.cells #[.string L[k].key, .int .i64 L[k].holder] 91)).heap.size = wr.heap.size + 1 by simp] at HAP
      clear hrl hrow hb hf hcs
      generalize hlk : L[k] = t at *
      clear hlk
      obtain ⟨zkey, zholder⟩ := t
      simp only at hx0 hx1 HAP HNR HFT
      generalize (L.take k).filter (fun t => t.holder == id) = fl at *
      generalize hfl : fl.length = m at *
      have HFL := Lib.hid hfl
      clear hfl
      by_cases hq : (zholder == id) = true
      · rw [if_pos hq] at HFT
        obtain ⟨b', cap', w3, hrun, hnr⟩ := HAP.out [.string zkey] rfl (by simp [Value.oneCell'])
        have HRUN := Lib.hid hrun
        have HNX : Hid (NewRow 9 1 w (((L.take (k + 1)).filter fun t => t.holder == id).flatMap fun t => [.string t.key]) ((L.take (k + 1)).filter fun t => t.holder == id).length (.slice b' (m + 1) cap') w3) := Lib.hid (by
          rw [HFT.out, List.length_append, HFL.out, List.flatMap_append]
          simpa using hnr)
        clear hrun hnr HAP HNR HFT
        have hq2 : (zholder == id) = true := hq
        all_goals
          go_wp2_with ((at_builtin; refine wpList_appendR _ rfl (.tmp 21) (.tmp 24) 47 47 rfl (.slice ao m co) (.slice (some ⟨wr.heap.size + 1, 0, none⟩) 1 1) rfl rfl HRUN.out ?_))
          go_roundw
          case rel => exact ⟨k + 1, by omega, by go_num, HNX⟩
          case measure => simp [intOf]; omega
      · rw [if_neg hq, List.append_nil] at HFT
        have HNX : Hid (NewRow 9 1 w (((L.take (k + 1)).filter fun t => t.holder == id).flatMap fun t => [.string t.key]) ((L.take (k + 1)).filter fun t => t.holder == id).length (.slice ao m co) (wr.alloc (.cells #[.string zkey, .int .i64 zholder] 91))) := Lib.hid (by rw [HFT.out, HFL.out]; exact HNR.out)
        clear HAP HNR HFT
        have hq2 : (zholder == id) = false := by simpa using hq
        clear hq
        all_goals
          go_wp2_with fail
          go_roundw
          case rel => exact ⟨k + 1, by omega, by go_num, HNX⟩
          case measure => simp [intOf]; omega
    · obtain rfl : k = n := by omega
      have HFIN := Lib.hid (HS2.out _ _ hrl.out)
      clear hrl
      go_wp2_with fail
      exact HFIN.out

theorem rf_holds (p : Nat) (wd : Bool) (M : List Mb) (K : List Lk) (id : Int) (w : World) (D : List Nat) (h : RefA p wd M K w D) (hbig : K.length ≤ 100000) :
    Calls Try.prog 29 #[.pointer (some ⟨p, 0, none⟩), .int .i64 id] w (fun e w' => ∃ v, e = .returned v ∧ NewRow 9 1 w ((holdsK K id).map Value.string) (holdsK K id).length v w') := by
  obtain ⟨la, lc, ka, kc, -, -, hc, -, hr⟩ := h.parts
  have := rf_holds0 p wd M K id w ka kc hc hr hbig
  rw [str_flat] at this
  unfold holdsK
  rw [List.length_map]
  exact this
theorem elder_cases (s t a b : Int) : (decide (s < t) = true ∧ decide (s < t ∨ (s = t ∧ a < b)) = true) ∨ (decide (s < t) = false ∧ (s == t) = false ∧ decide (s < t ∨ (s = t ∧ a < b)) = false) ∨ (decide (s < t) = false ∧ (s == t) = true ∧ decide (a < b) = decide (s < t ∨ (s = t ∧ a < b))) := by
  by_cases h1 : s < t
  · exact .inl ⟨decide_eq_true h1, decide_eq_true (.inl h1)⟩
  · by_cases h2 : s = t
    · refine .inr (.inr ⟨decide_eq_false h1, by simpa using h2, ?_⟩)
      rw [decide_eq_decide]; omega
    · exact .inr (.inl ⟨decide_eq_false h1, by simpa using h2, decide_eq_false (by omega)⟩)
theorem ageB (x y : Mb) : decide (ageC x y < 0) = decide (x.stamp < y.stamp ∨ (x.stamp = y.stamp ∧ x.id < y.id)) := by
  rw [decide_eq_decide]; exact ageC_neg x y
set_option maxRecDepth 100000 in
set_option maxHeartbeats 1600000 in
theorem rf_elder (x y : Mb) (w : World) : Calls Try.prog 47 #[.agg #[.int .i64 x.id, .int .i64 x.stamp, .bool x.waits, .string x.key], .agg #[.int .i64 y.id, .int .i64 y.stamp, .bool y.waits, .string y.key]] w
    fun e w' => e = .returned (.bool (decide (ageC x y < 0))) ∧ Below w.heap.size w w' := by
  rw [ageB]
  obtain ⟨xi, xs, xw, xk⟩ := x
  obtain ⟨yi, ys, yw, yk⟩ := y
  simp only
  have hor := elder_cases xs ys xi yi
  generalize decide (xs < ys ∨ (xs = ys ∧ xi < yi)) = r at *
  have HB : Hid (Below w.heap.size w ((w.alloc (.cells #[.int .i64 xi, .int .i64 xs, .bool xw, .string xk] 61)).alloc (.cells #[.int .i64 yi, .int .i64 ys, .bool yw, .string yk] 61))) := Lib.hid (Below.alloc (Below.alloc (Below.refl _ _) (Nat.le_refl _) _) (by simp) _)
  rcases hor with ⟨q1, rfl⟩ | ⟨q1, q2, rfl⟩ | ⟨q1, q2, rfl⟩
  all_goals
    go_enter Try.func47, Try.ntmps47
    go_wp2_with fail
    go_ret
    exact ⟨rfl, HB.out⟩
end Go.Proofs.Ytlmfpkfgjfdhgaa
