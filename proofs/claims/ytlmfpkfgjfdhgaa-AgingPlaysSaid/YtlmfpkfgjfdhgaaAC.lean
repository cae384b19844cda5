/- slices.SortFunc by age; Waiting. -/
import Derived.Test.YtlmfpkfgjfdhgaaAB
import Derived.Test.YtlmfpkfgjfdhgaaSrt
import Derived.Test.YtlmfpkfgjfdhgaaLay
namespace Go.Proofs.Ytlmfpkfgjfdhgaa
open Go.RowKit Go.Sort

/-- draws and new blocks alone. -/
def Grown (W w' : World) : Prop := ∃ q os', w' = grow (W.drewN q) os'
theorem Grown.refl (W : World) : Grown W W := ⟨0, #[], by rw [grow_empty]; rfl⟩
theorem Grown.drew {W w : World} (h : Grown W w) : Grown W w.drew := by
  obtain ⟨q, os, rfl⟩ := h
  exact ⟨q + 1, os, rfl⟩
theorem Grown.alloc {W w : World} (h : Grown W w) (o : Obj) : Grown W (w.alloc o) := by
  obtain ⟨q, os, rfl⟩ := h
  exact ⟨q, os ++ #[o], by rw [alloc_eq_grow, grow_grow]⟩
set_option maxHeartbeats 2000000 in
theorem age_grown (x y : Mb) (w : World) : Calls Try.prog 40 #[.agg #[.int .i64 x.id, .int .i64 x.stamp, .bool x.waits, .string x.key], .agg #[.int .i64 y.id, .int .i64 y.stamp, .bool y.waits, .string y.key]] w
    fun e w' => e = .returned (.int .i64 (ageC x y)) ∧ Grown w w' := by
  obtain ⟨xi, xd, xw, xk⟩ := x
  obtain ⟨yi, yd, yw, yk⟩ := y
  unfold ageC
  simp only
  go_enter Try.func40, Try.ntmps40
  go_wp2_with fail
  go_region_held3 (fun w' => w'.cell? ⟨w.heap.size, 0, none⟩ = some (.int .i64 xi) ∧ w'.cell? ⟨w.heap.size, 1, none⟩ = some (.int .i64 xd) ∧ w'.cell? ⟨w.heap.size + 1, 0, none⟩ = some (.int .i64 yi) ∧ w'.cell? ⟨w.heap.size + 1, 1, none⟩ = some (.int .i64 yd)) (simp [go_sem, World.cell?_alloc_past])
    (first
      | ((go_at_call 54; refine (compare_int _ _ _).mono ?_; rintro e w' ⟨rfl, rfl⟩))
      | ((go_at_call 64; refine (or_any _ (cmpI xd yd) (cmpI xi yi) _ (by simp [go_sem, World.cell?_alloc_past]) (by simp [go_sem, World.cell?_alloc_past])).mono ?_; rintro e w' ⟨rfl, rfl⟩)))
  all_goals
    go_wp2_with fail
    go_ret
    exact ⟨rfl, by repeat (first | exact Grown.refl _ | refine Grown.drew ?_ | refine Grown.alloc ?_ _)⟩
instance : Inhabited Mb := ⟨⟨0, 0, false, ⟨#[]⟩⟩⟩
theorem mb_cmpLays (blk off size : Nat) (w : World) : CmpLays Try.prog 40 #[] mbCells 4 ageC blk off size w :=
  fun _ _ _ _ x y => age_grown x y _
theorem ageC_neg (x y : Mb) : ageC x y < 0 ↔ x.stamp < y.stamp ∨ (x.stamp = y.stamp ∧ x.id < y.id) := by
  unfold ageC
  rcases orI_cases (cmpI x.stamp y.stamp) (cmpI x.id y.id) with ⟨h, e⟩ | ⟨h, e⟩
  · rw [e, cmpI_neg]
    have := (cmpI_zero _ _).1 h
    omega
  · rw [e, cmpI_neg]
    have h1 : ¬ x.stamp = y.stamp := fun h' => h ((cmpI_zero _ _).2 h')
    omega
theorem swo_age : SWO (ltOf ageC) where
  irrefl x := by unfold ltOf; rw [decide_eq_false_iff_not, ageC_neg]; omega
  trans x y z h1 h2 := by unfold ltOf at *; rw [decide_eq_true_eq, ageC_neg] at *; omega
  ntrans x y z h1 h2 := by unfold ltOf at *; rw [decide_eq_false_iff_not, ageC_neg] at *; omega
theorem mbFlat_flatMap (l : List Mb) : mbFlat l = l.flatMap mbCells := by
  induction l with
  | nil => rfl
  | cons t r ih => rw [List.flatMap_cons, ← ih]; rfl
/-- by age, sorted. -/
abbrev ByAge (l : List Mb) : Prop := l.Pairwise fun x y => ¬ ageC y x < 0
/-- slices.SortFunc of members by age. -/
theorem sort_mb (a : Option Addr) (n c : Nat) (l : List Mb) (hl : l.length = n) (hbig : n ≤ 1000) (w : World) (hr : Row w 77 4 a n c (mbFlat l)) :
    Calls Try.prog 49 #[.slice a n c, .func (.func 40) #[] #[]] w fun e w' => e = .returned (.tuple #[]) ∧ ∃ s : List Mb, s.Perm l ∧ ByAge s ∧ Row w' 77 4 a n c (mbFlat s) ∧ Touch (blkOf a) w w' := by
  rcases hr.out with ⟨rfl, rfl, rfl, hx⟩ | ⟨g, cur, rfl, hg, hnc, hcm, _⟩
  · have hl0 : l = [] := List.eq_nil_of_length_eq_zero hl
    subst hl0
    refine (show Calls Try.prog 49 _ _ _ from AnyF.slices_SortFunc_none Try.sortMb none 0 (.func (.func 40) #[] #[]) w).mono ?_
    rintro e w' ⟨rfl, rfl⟩
    exact ⟨rfl, [], .refl _, List.Pairwise.nil, hr, Touch.refl _ _⟩
  · rw [mbFlat_flatMap] at hr
    have hH := row_holdsK (k := 4) (enc := mbCells) (fun _ => rfl) (by decide) (d := l.toArray) (by simpa using hl) (by simpa using hr)
    have hsz : l.toArray.size < 4611686018427387904 := by simp; omega
    have hcon := AnyQ.slices_SortFunc Try.sortMb 4 Try.isAgg77 Try.sizeOf77 mbCells (fun _ => rfl) (fun t => mbCells_one t) ageC swo_age 40 #[] g 0 c l.toArray w (enters_of Try.func40 (by kernel_rfl) rfl) (mb_cmpLays g 0 l.toArray.size w) hH (lt_of_heap hg) hsz
    have hsize : l.toArray.size = n := by simpa using hl
    rw [hsize] at hcon
    refine (show Calls Try.prog 49 _ _ _ from hcon).mono ?_
    rintro e w' ⟨rfl, d', m, os, hp, hs, hw⟩
    have hd' : d'.size = n := hp.1.trans hsize
    obtain ⟨k1, k2⟩ := row_sorted (k := 4) (enc := mbCells) (fun _ => rfl) (by decide) (d := l.toArray) hsize hd' (by simpa using hr) hw
    refine ⟨rfl, d'.toList, ?_, ?_, by rw [mbFlat_flatMap]; exact k1, k2⟩
    · exact permIn_list (by rw [hsize]; exact hp)
    · have := sortedIn_list (lt := ltOf ageC) (d := l.toArray) (d' := d') (by rw [hsize]; exact hd') (by rw [hsize]; exact hs)
      exact this.imp fun {x y} h => by unfold ltOf at h; simpa using h
def idsFlat (l : List Mb) : List Value := l.flatMap fun t => [.int .i64 t.id]
theorem idsFlat_take (l : List Mb) (k : Nat) (hk : k < l.length) : idsFlat (l.take (k + 1)) = idsFlat (l.take k) ++ [.int .i64 l[k].id] := by
  unfold idsFlat
  rw [List.take_succ_eq_append_getElem hk, List.flatMap_append]; simp
/-- who waits, the eldest first. -/
def WaitPost (w : World) (M : List Mb) (key : ByteArray) (e : Ending) (w' : World) : Prop :=
  ∃ v S, e = .returned v ∧ S.Perm (waitM M key) ∧ ByAge S ∧ NewRow 3 1 w (idsFlat S) S.length v w'
theorem WaitPost.mk {w w1 w2 w3 : World} {M S : List Mb} {key : ByteArray} {a : Option Addr} {v : Value} (h1 : Below w.heap.size w w1) (h2 : ∀ x ∈ blkOf a, w.heap.size ≤ x) (h3 : Touch (blkOf a) w1 w2) (h4 : S.Perm (waitM M key)) (h5 : ByAge S) (h6 : NewRow 3 1 w2 (idsFlat S) S.length v w3) : WaitPost w M key (.returned v) w3 := by
  have hb2 : Below w.heap.size w w2 := ((Touch.of_below h1 []).trans h3 (fun x hx => .inr (h2 x hx))).keep
  obtain ⟨a', c', rfl, hr, hb, hf⟩ := h6
  exact ⟨_, S, rfl, h4, h5, a', c', rfl, hr, hb2.trans (hb.mono hb2.size), fun x hx => Nat.le_trans hb2.size (hf x hx)⟩
set_option maxRecDepth 100000 in
set_option maxHeartbeats 1600000 in
theorem tb_waitids (p : Nat) (wd : Bool) (la : Option Addr) (lc : Nat) (M : List Mb) (ka : Option Addr) (kc : Nat) (K : List Lk) (key : ByteArray) (w : World) (h : Tb w p wd la lc M ka kc K) (hbig : M.length ≤ 1000) :
    Calls Try.prog 26 #[.pointer (some ⟨p, 0, none⟩), .string key] w (WaitPost w M key) := by
  have HW := Lib.hid (tb_waiting p wd la lc M ka kc K key w h hbig)
  have hwl : (waitM M key).length ≤ 1000 := Nat.le_trans (List.length_filter_le _ _) hbig
  have HFIN : Hid (∀ w1 w2 a S v w3, Below w.heap.size w w1 → (∀ x ∈ blkOf a, w.heap.size ≤ x) → Touch (blkOf a) w1 w2 → S.Perm (waitM M key) → ByAge S → NewRow 3 1 w2 (idsFlat S) S.length v w3 → WaitPost w M key (.returned v) w3) := Lib.hid fun w1 w2 a S v w3 a1 a2 a3 a4 a5 a6 => WaitPost.mk a1 a2 a3 a4 a5 a6
  rw [show (M.filter fun t => t.waits && t.key.toList == key.toList) = waitM M key from rfl, mb_flat] at HW
  generalize WaitPost w M key = R at *
  generalize waitM M key = wl at *
  clear h hbig
  generalize hn : wl.length = n at *
  have HN := Lib.hid hn
  clear hn
  go_enter Try.func26, Try.ntmps26
  go_wp2_with fail
  refine HW.out.mono ?_
  rintro e w1 ⟨v, rfl, a, c, rfl, hr, hb, hf⟩
  have HB1 := Lib.hid hb
  have HF1 := Lib.hid hf
  have HS := Lib.hid (sort_mb a n c wl HN.out hwl w1 hr)
  clear hb hf hr
  go_wp2_with fail
  refine HS.out.mono ?_
  rintro e w2 ⟨rfl, S, hp, hby, hr, ht⟩
  have hsl : S.length = n := by rw [← HN.out]; exact hp.length_eq
  have HF2 := Lib.hid fun v w3 (hnr : NewRow 3 1 w2 (idsFlat (S.take S.length)) (S.take S.length).length v w3) => HFIN.out w1 w2 a S v w3 HB1.out HF1.out ht hp hby (by rw [List.take_length] at hnr; exact hnr)
  have HR := Lib.hid hr
  clear hr ht hp hby HFIN HS HW
  have HSL := Lib.hid hsl
  rw [hsl] at HF2
  clear hsl
  go_wp2_with fail
  go_loopw [6, 18] (fun v j wr => ∃ k : Nat, k ≤ n ∧ j = .int .i64 k ∧ Hid (NewRow 3 1 w2 (idsFlat (S.take k)) (S.take k).length v wr)) (fun _ j _ => n - (intOf j).toNat)
  case atStart => exact ⟨0, Nat.zero_le _, rfl, Lib.hid (NewRow.nil _ _ w2)⟩
  case round =>
    obtain ⟨k, hk, rfl, hrl⟩ := hrel
    by_cases hlt : k < n
    · obtain ⟨ao, co, rfl, hrow, hb, hf⟩ := hrl.out
      have hk2 : k < S.length := by rw [HSL.out]; exact hlt
      obtain ⟨g, rfl, hcs⟩ := mbAt_row HR.out k hk2
      obtain ⟨hx0, hx1, hx2, hx3⟩ := hcs.below hb
      have hol : (S.take k).length ≤ 100000 := by rw [List.length_take]; omega
      have HFT := Lib.hid (idsFlat_take S k hk2)
      have HLT : Hid ((S.take (k + 1)).length = (S.take k).length + 1) := Lib.hid (by rw [List.length_take, List.length_take]; omega)
      have HNR := Lib.hid (NewRow.below hrl.out (bel_new wr (.cells #[.int .i64 S[k].id, .int .i64 S[k].stamp, .bool S[k].waits, .string S[k].key] 77)))
      have HAP := Lib.hid (HNR.out.app (P := Try.prog) Try.underlying40 info3 (z0 := .int .i64 0) rfl (by decide) [.int .i64 S[k].id] rfl (by simp [Value.oneCell']) (by omega) (by decide) 40)
      rw [show (wr.alloc (.cells #[.int .i64 S[k].id, .int .i64 S[k].stamp, .bool S[k].waits, .string S[k].key] 77)).heap.size = wr.heap.size + 1 by simp] at HAP
      obtain ⟨b', cap', w4, hrun, hnr⟩ := HAP.out
      have HRUN := Lib.hid hrun
      have HNX : Hid (NewRow 3 1 w2 (idsFlat (S.take (k + 1))) (S.take (k + 1)).length (.slice b' ((S.take k).length + 1) cap') w4) := Lib.hid (by rw [HFT.out, HLT.out]; exact hnr)
      clear hrl hrow hb hf hcs hrun hnr HAP HNR HFT
      generalize S[k] = t at *
      obtain ⟨zid, zstamp, zwaits, zkey⟩ := t
      simp only at hx0 hx1 hx2 hx3 HRUN
      generalize hm : (S.take k).length = m at *
      clear hm
      clear HLT
      go_wp2_with ((at_builtin; refine wpList_appendR _ rfl (.tmp 22) (.tmp 25) 40 40 rfl (.slice ao m co) (.slice (some ⟨wr.heap.size + 1, 0, none⟩) 1 1) rfl rfl HRUN.out ?_))
      go_roundw
      case rel => exact ⟨k + 1, by omega, by go_num, HNX⟩
      case measure => simp [intOf]; omega
    · obtain rfl : k = n := by omega
      have HFN := Lib.hid (HF2.out _ _ hrl.out)
      clear hrl
      go_wp2_with fail
      exact HFN.out
end Go.Proofs.Ytlmfpkfgjfdhgaa
