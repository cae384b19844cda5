/- The order of edges; slices.SortFunc of them. -/
import Derived.Test.YtbgabdofnmijnaaK
import Derived.Test.YtbgabdofnmijnaaSrt
import Derived.Test.YtbgabdofnmijnaaLay
namespace Go.Proofs.Ytbgabdofnmijnaa
open Go.RowKit Go.Sort
def cmpI (a b : Int) : Int := if a < b then -1 else if b < a then 1 else 0
theorem cmpI_cases (a b : Int) : (a < b ∧ cmpI a b = -1) ∨ (b < a ∧ cmpI a b = 1) ∨ (a = b ∧ cmpI a b = 0) := by
  unfold cmpI; split
  · exact Or.inl ⟨by assumption, rfl⟩
  · split
    · exact Or.inr (Or.inl ⟨by assumption, rfl⟩)
    · exact Or.inr (Or.inr ⟨by omega, rfl⟩)
set_option maxHeartbeats 400000 in
theorem isnan_int (a : Int) (w : World) : Calls Try.prog 60 #[.int .i64 a] w fun e w' => e = .returned (.bool false) ∧ w = w' := by
  go_enter Try.func60, Try.ntmps60
  go_wp2_with fail
  go_ret
  exact ⟨by simp, rfl⟩
set_option maxHeartbeats 400000 in
theorem compare_int (a b : Int) (w : World) : Calls Try.prog 34 #[.int .i64 a, .int .i64 b] w fun e w' => e = .returned (.int .i64 (cmpI a b)) ∧ w = w' := by
  have h0 := cmpI_cases a b
  generalize cmpI a b = r at *
  go_enter Try.func34, Try.ntmps34
  go_wp2_with fail
  refine (isnan_int a _).mono ?_
  rintro e w1 ⟨rfl, rfl⟩
  go_wp2_with fail
  refine (isnan_int b _).mono ?_
  rintro e w1 ⟨rfl, rfl⟩
  rcases h0 with ⟨h1, rfl⟩ | ⟨h1, rfl⟩ | ⟨rfl, rfl⟩
  · go_wp2_with fail
    go_ret
    exact ⟨rfl, rfl⟩
  · have h2 : ¬ a < b := by omega
    go_wp2_with fail
    go_ret
    exact ⟨rfl, rfl⟩
  · go_wp2_with fail
    go_ret
    exact ⟨rfl, rfl⟩

def orI (a b : Int) : Int := if a = 0 then b else a
theorem orI_cases (a b : Int) : (a = 0 ∧ orI a b = b) ∨ (a ≠ 0 ∧ orI a b = a) := by
  unfold orI; split
  · exact Or.inl ⟨by assumption, rfl⟩
  · exact Or.inr ⟨by assumption, rfl⟩
set_option maxHeartbeats 800000 in
theorem or_any (g : Nat) (a b : Int) (w : World) (h0 : w.cell? ⟨g, 0, none⟩ = some (.int .i64 a)) (h1 : w.cell? ⟨g, 1, none⟩ = some (.int .i64 b)) :
    Calls Try.prog 33 #[.slice (some ⟨g, 0, none⟩) 2 2] w fun e w' => e = .returned (.int .i64 (orI a b)) ∧ w = w' := by
  have hr := orI_cases a b
  generalize orI a b = r at *
  go_enter Try.func33, Try.ntmps33
  go_wp2_with fail
  go_loopw [8] (fun i wr => w = wr ∧ (i = .int .i64 0 ∨ (i = .int .i64 1 ∧ a = 0) ∨ (i = .int .i64 2 ∧ a = 0 ∧ b = 0))) (fun i _ => (2 - intOf i).toNat)
  case atStart => exact ⟨rfl, Or.inl rfl⟩
  case round =>
    obtain ⟨rfl, ⟨rfl⟩ | ⟨rfl, rfl⟩ | ⟨rfl, rfl, rfl⟩⟩ := hrel
    · rcases hr with ⟨rfl, rfl⟩ | ⟨ha, rfl⟩
      · go_wp2_with fail
        go_roundw
        case rel => simp
        case measure => simp [intOf]
      · go_wp2_with fail
        go_ret
        exact ⟨rfl, rfl⟩
    · obtain ⟨_, rfl⟩ | ⟨h, _⟩ := hr
      · by_cases hb : r = 0
        · subst hb
          go_wp2_with fail
          go_roundw
          case rel => simp
          case measure => simp [intOf]
        · go_wp2_with fail
          go_ret
          exact ⟨rfl, rfl⟩
      · exact absurd rfl h
    · obtain ⟨_, rfl⟩ | ⟨h, _⟩ := hr
      · go_wp2_with fail
        go_ret
        exact ⟨rfl, rfl⟩
      · exact absurd rfl h

/-- draws and new blocks alone. -/
def Grown (W w' : World) : Prop := ∃ q os', w' = grow (W.drewN q) os'
theorem Grown.refl (W : World) : Grown W W := ⟨0, #[], by rw [grow_empty]; rfl⟩
theorem Grown.drew {W w : World} (h : Grown W w) : Grown W w.drew := by
  obtain ⟨q, os, rfl⟩ := h
  exact ⟨q + 1, os, rfl⟩
theorem Grown.alloc {W w : World} (h : Grown W w) (o : Obj) : Grown W (w.alloc o) := by
  obtain ⟨q, os, rfl⟩ := h
  exact ⟨q, os ++ #[o], by rw [alloc_eq_grow, grow_grow]⟩
abbrev egV (x : Eg) : Value := .agg #[.int .i64 x.a, .int .i64 x.b]
def egC (x y : Eg) : Int := orI (cmpI x.a y.a) (cmpI x.b y.b)
set_option maxRecDepth 100000 in
set_option maxHeartbeats 2000000 in
theorem egc_grown (x y : Eg) (w : World) : Calls Try.prog 32 #[egV x, egV y] w fun e w' => e = .returned (.int .i64 (egC x y)) ∧ Grown w w' := by
  obtain ⟨xa, xb⟩ := x
  obtain ⟨ya, yb⟩ := y
  unfold egC
  simp only
  go_enter Try.func32, Try.ntmps32
  go_wp2_with fail
  go_region_held3 (fun w' => w'.cell? ⟨w.heap.size, 0, none⟩ = some (.int .i64 xa) ∧ w'.cell? ⟨w.heap.size, 1, none⟩ = some (.int .i64 xb) ∧ w'.cell? ⟨w.heap.size + 1, 0, none⟩ = some (.int .i64 ya) ∧ w'.cell? ⟨w.heap.size + 1, 1, none⟩ = some (.int .i64 yb)) (simp [go_sem, World.cell?_alloc_past])
    (first
      | ((go_at_call 34; refine (compare_int _ _ _).mono ?_; rintro e w' ⟨rfl, rfl⟩))
      | ((go_at_call 33; refine (or_any _ (cmpI xa ya) (cmpI xb yb) _ (by simp [go_sem, World.cell?_alloc_past]) (by simp [go_sem, World.cell?_alloc_past])).mono ?_; rintro e w' ⟨rfl, rfl⟩))
      | (fail "none"))
  all_goals
    go_wp2_with fail
    go_ret
    exact ⟨rfl, by repeat (first | exact Grown.refl _ | refine Grown.drew ?_ | refine Grown.alloc ?_ _)⟩
instance : Inhabited Eg := ⟨⟨0, 0⟩⟩
theorem eg_cmpLays (blk off size : Nat) (w : World) : CmpLays Try.prog 32 #[] egCells 2 egC blk off size w :=
  fun _ _ _ _ x y => egc_grown x y _
theorem cmpI_neg (a b : Int) : cmpI a b < 0 ↔ a < b := by
  rcases cmpI_cases a b with ⟨h, e⟩ | ⟨h, e⟩ | ⟨h, e⟩ <;> rw [e] <;> omega
theorem cmpI_zero (a b : Int) : cmpI a b = 0 ↔ a = b := by
  rcases cmpI_cases a b with ⟨h, e⟩ | ⟨h, e⟩ | ⟨h, e⟩ <;> rw [e] <;> omega
theorem egC_neg (x y : Eg) : egC x y < 0 ↔ x.a < y.a ∨ (x.a = y.a ∧ x.b < y.b) := by
  unfold egC
  rcases orI_cases (cmpI x.a y.a) (cmpI x.b y.b) with ⟨h, e⟩ | ⟨h, e⟩
  · rw [e, cmpI_neg]
    have := (cmpI_zero _ _).1 h
    omega
  · rw [e, cmpI_neg]
    have h1 : ¬ x.a = y.a := fun h' => h ((cmpI_zero _ _).2 h')
    omega
theorem swo_eg : SWO (ltOf egC) where
  irrefl x := by unfold ltOf; rw [decide_eq_false_iff_not, egC_neg]; omega
  trans x y z h1 h2 := by unfold ltOf at *; rw [decide_eq_true_eq, egC_neg] at *; omega
  ntrans x y z h1 h2 := by unfold ltOf at *; rw [decide_eq_false_iff_not, egC_neg] at *; omega
theorem egFlat_flatMap (l : List Eg) : egFlat l = l.flatMap egCells := by
  induction l with
  | nil => rfl
  | cons t r ih => rw [List.flatMap_cons, ← ih]; rfl
/-- rising, alike ones too. -/
abbrev EgUp (l : List Eg) : Prop := l.Pairwise fun x y => ¬ egC y x < 0
/-- slices.SortFunc of edges. -/
theorem sort_eg (a : Option Addr) (n c : Nat) (l : List Eg) (hl : l.length = n) (hbig : n ≤ 100000) (w : World) (hr : Row w 42 2 a n c (egFlat l)) :
    Calls Try.prog 31 #[.slice a n c, .func (.func 32) #[] #[]] w fun e w' => e = .returned (.tuple #[]) ∧ ∃ s : List Eg, s.Perm l ∧ EgUp s ∧ Row w' 42 2 a n c (egFlat s) ∧ Touch (blkOf a) w w' := by
  rcases hr.out with ⟨rfl, rfl, rfl, hx⟩ | ⟨g, cur, rfl, hg, hnc, hcm, _⟩
  · have hl0 : l = [] := List.eq_nil_of_length_eq_zero hl
    subst hl0
    refine (show Calls Try.prog 31 _ _ _ from AnyF.slices_SortFunc_none Try.sortEg none 0 (.func (.func 32) #[] #[]) w).mono ?_
    rintro e w' ⟨rfl, rfl⟩
    exact ⟨rfl, [], .refl _, List.Pairwise.nil, hr, Touch.refl _ _⟩
  · rw [egFlat_flatMap] at hr
    have hH := row_holdsK (k := 2) (enc := egCells) (fun _ => rfl) (by decide) (d := l.toArray) (by simpa using hl) (by simpa using hr)
    have hsz : l.toArray.size < 4611686018427387904 := by simp; omega
    have hcon := AnyQ.slices_SortFunc Try.sortEg 2 Try.isAgg42 Try.sizeOf42 egCells (fun _ => rfl) (fun t => egCells_one t) egC swo_eg 32 #[] g 0 c l.toArray w (enters_of Try.func32 (by kernel_rfl) rfl) (eg_cmpLays g 0 l.toArray.size w) hH (lt_of_heap hg) hsz
    have hsize : l.toArray.size = n := by simpa using hl
    rw [hsize] at hcon
    refine (show Calls Try.prog 31 _ _ _ from hcon).mono ?_
    rintro e w' ⟨rfl, d', m, os, hp, hs, hw⟩
    have hd' : d'.size = n := hp.1.trans hsize
    obtain ⟨k1, k2⟩ := row_sorted (k := 2) (enc := egCells) (fun _ => rfl) (by decide) (d := l.toArray) hsize hd' (by simpa using hr) hw
    refine ⟨rfl, d'.toList, ?_, ?_, by rw [egFlat_flatMap]; exact k1, k2⟩
    · exact permIn_list (by rw [hsize]; exact hp)
    · have := sortedIn_list (lt := ltOf egC) (d := l.toArray) (d' := d') (by rw [hsize]; exact hd') (by rw [hsize]; exact hs)
      exact this.imp fun {x y} h => by unfold ltOf at h; simpa using h
end Go.Proofs.Ytbgabdofnmijnaa
