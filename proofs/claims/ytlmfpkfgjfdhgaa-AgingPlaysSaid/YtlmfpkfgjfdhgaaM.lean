/- give. -/
import Derived.Test.YtlmfpkfgjfdhgaaL
namespace Go.Proofs.Ytlmfpkfgjfdhgaa
open Go.RowKit

def waitM (M : List Mb) (key : ByteArray) : List Mb := M.filter fun t => t.waits && t.key.toList == key.toList
theorem mb_flat (l : List Mb) : (l.flatMap fun t => [Value.int .i64 t.id, .int .i64 t.stamp, .bool t.waits, .string t.key]) = mbFlat l := by
  induction l with
  | nil => rfl
  | cons t r ih => rw [List.flatMap_cons, ih]; rfl
def pickM (wd : Bool) (x0 : Mb) (r : List Mb) : Mb := if wd then minF x0 r else maxF x0 r
/-- a key that nobody holds is given. -/
def giveT (wd : Bool) (M : List Mb) (K : List Lk) (key : ByteArray) : List Mb × List Lk := match waitM M key with
  | [] => (M, K.eraseIdx (posK K key))
  | x0 :: r => (restM M (pickM wd x0 r).id, K.modify (posK K key) fun l => ⟨l.key, (pickM wd x0 r).id⟩)
theorem modK_eq {K : List Lk} {q : Nat} {x : Int} (h : q < K.length) : (K.modify q fun l => ⟨l.key, x⟩) = K.set q ⟨K[q].key, x⟩ := by
  apply List.ext_getElem
  · simp
  · intro j h1 h2
    rw [List.getElem_modify, List.getElem_set]
    split
    · rename_i e; subst e; rfl
    · rfl
theorem fold_mem (f : Mb → Mb → Bool) : ∀ (l : List Mb) (m : Mb), (l.foldl (fun m x => if f x m then x else m) m) ∈ m :: l
  | [], m => List.mem_cons_self ..
  | x :: r, m => by
    rw [List.foldl_cons]
    have := fold_mem f r (if f x m then x else m)
    rcases List.mem_cons.1 this with h | h
    · rw [h]
      split
      · exact List.mem_cons_of_mem _ (List.mem_cons_self ..)
      · exact List.mem_cons_self ..
    · exact List.mem_cons_of_mem _ (List.mem_cons_of_mem _ h)
theorem pick_mem (wd : Bool) (x0 : Mb) (r : List Mb) : pickM wd x0 r ∈ x0 :: r := by
  unfold pickM
  split
  · have := fold_mem (fun x m => decide (ageC x m < 0)) r x0
    simpa [minF] using this
  · have := fold_mem (fun x m => decide (0 < ageC x m)) r x0
    simpa [maxF] using this
theorem hasM_mem {M : List Mb} {m : Mb} (h : m ∈ M) : hasM M m.id = true := List.any_eq_true.2 ⟨m, h, by simp⟩

set_option maxRecDepth 100000 in
set_option maxHeartbeats 4000000 in
theorem tb_give_none (p : Nat) (wd : Bool) (la : Option Addr) (lc : Nat) (M : List Mb) (ka : Option Addr) (kc : Nat) (K : List Lk) (key : ByteArray) (w : World) (h : Tb w p wd la lc M ka kc K) (hk : SortK K) (hbig : M.length ≤ 1000) (hbigk : K.length ≤ 100000) (hh : hasK K key = true)
    (hw : waitM M key = []) :
    Calls Try.prog 58 #[.pointer (some ⟨p, 0, none⟩), .string key] w (TPost w (tbD p la ka) p wd (.returned (.tuple #[])) M (K.eraseIdx (posK K key))) := by
  have HP := Lib.hid (tb_place p wd la lc M ka kc K key w h hk hbigk)
  rw [hh] at HP
  obtain ⟨hl, hke⟩ := (hasK_iff hk key).1 hh
  clear hke
  have HW := Lib.hid fun w1 (hb : Below w.heap.size w w1) => tb_waiting p wd la lc M ka kc K key w1 (h.below hb) hbig
  have hw' : (M.filter fun t => t.waits && t.key.toList == key.toList) = [] := hw
  rw [hw'] at HW
  simp only [List.flatMap_nil, List.length_nil] at HW
  obtain ⟨g, rfl, hcs⟩ := lkAt_row h.rk (posK K key) hl
  clear hcs
  have HT := Lib.hid h
  have HDEL := Lib.hid fun w1 (hb : Below w.heap.size w w1) => (show Calls Try.prog 69 #[.slice (some ⟨g, 0, none⟩) K.length kc, .int .i64 (posK K key), .int .i64 ((posK K key : Int) + 1)] w1 (fun e W' => e = .returned (.slice (some ⟨g, 0, none⟩) (K.length - 1) kc) ∧ (∃ v, W'.cell? ⟨p, 2, none⟩ = some v) ∧ W'.frozen? ⟨p, 2, none⟩ = false ∧
      TPost w (tbD p la (some ⟨g, 0, none⟩)) p wd (.returned (.tuple #[])) M (K.eraseIdx (posK K key)) (.returned (.tuple #[])) (W'.setCell ⟨p, 2, none⟩ (.slice (some ⟨g, 0, none⟩) (K.length - 1) kc))) from by
    have h1 := h.below hb
    rcases h1.rk.out with ⟨e, _⟩ | ⟨g', cur, e, hg, g1, g2, g3, g4, g5⟩
    · cases e
    · obtain rfl : g = g' := by simpa using e
      refine (delL_any g K.length kc (posK K key) cur (lkFlat K) w1 hg g3 g1 g2 g4 (lkFlat_one K) hl).mono ?_
      rintro e W' ⟨rfl, hrow, ht⟩
      have hlen : (K.eraseIdx (posK K key)).length = K.length - 1 := by rw [List.length_eraseIdx]; simp [hl]
      rw [lkFlat_take, lkFlat_drop, ← lkFlat_append, ← List.eraseIdx_eq_take_drop_succ, ← hlen] at hrow
      have hpn : p ∉ blkOf (some ⟨g, 0, none⟩) := h1.nk
      have hp := (Touch.heap ht h1.hp (by simpa [blkOf] using hpn))
      obtain ⟨k1, k2⟩ := h1.setK hrow (by simpa [blkOf] using ht) (Fresh.refl _ _)
      rw [hlen] at k1 k2
      exact ⟨rfl, ⟨_, (cell_of_heap (i := 2) hp rfl).1⟩, (cell_of_heap (i := 2) hp rfl).2, rfl, _, ⟨_, _, _, _, rfl, k1⟩, (Step.of_below hb _).trans k2⟩)
  generalize hq : posK K key = q at *
  have HQ := Lib.hid hq
  clear hq h hk hh hw hw'
  generalize TPost w (tbD p la (some ⟨g, 0, none⟩)) p wd (.returned (.tuple #[])) M (K.eraseIdx q) = R at *
  go_enter Try.func58, Try.ntmps58
  go_wp2_with fail
  refine HP.out.mono ?_
  rintro e w1 ⟨rfl, hb⟩
  have HB := Lib.hid hb
  clear hb
  go_wp2_with fail
  refine (HW.out _ HB.out).mono ?_
  rintro e w2 ⟨v, rfl, a2, c2, rfl, hr2, hb2, hf2⟩
  have HB2 := Lib.hid (HB.out.trans (hb2.mono HB.out.size))
  clear hr2 hb2 hf2
  have hc := (HT.out.below HB2.out).cell2.1
  have HD := Lib.hid (HDEL.out _ HB2.out)
  clear HDEL
  generalize K.length = n at *
  go_wp2_with fail
  refine HD.out.mono ?_
  rintro e w3 ⟨rfl, ⟨v3, hc3⟩, hf3, hfin⟩
  have HFIN := Lib.hid hfin
  clear hfin
  go_wp2_with fail
  exact bodyPost_ret (v := .tuple #[]) (by simp [results, Try.results58, go_sem]) rfl HFIN.out

set_option maxRecDepth 100000 in
set_option maxHeartbeats 4000000 in
theorem tb_give_some (p : Nat) (wd : Bool) (la : Option Addr) (lc : Nat) (M : List Mb) (ka : Option Addr) (kc : Nat) (K : List Lk) (key : ByteArray) (w : World) (h : Tb w p wd la lc M ka kc K) (hs : SortM M) (hk : SortK K) (hbig : M.length ≤ 1000) (hbigk : K.length ≤ 100000) (hh : hasK K key = true)
    (x0 : Mb) (r : List Mb) (hw : waitM M key = x0 :: r) :
    Calls Try.prog 58 #[.pointer (some ⟨p, 0, none⟩), .string key] w (TPost w (tbD p la ka) p wd (.returned (.tuple #[])) (restM M (pickM wd x0 r).id) (K.modify (posK K key) fun l => ⟨l.key, (pickM wd x0 r).id⟩)) := by
  have HP := Lib.hid (tb_place p wd la lc M ka kc K key w h hk hbigk)
  rw [hh] at HP
  obtain ⟨hl, hke⟩ := (hasK_iff hk key).1 hh
  clear hke
  have HW := Lib.hid fun w1 (hb : Below w.heap.size w w1) => tb_waiting p wd la lc M ka kc K key w1 (h.below hb) hbig
  have hw' : (M.filter fun t => t.waits && t.key.toList == key.toList) = x0 :: r := hw
  rw [hw'] at HW
  simp only [mb_flat] at HW
  have hrl : r.length ≤ 1000 := by
    have : (x0 :: r).length ≤ M.length := by rw [← hw']; exact List.length_filter_le _ _
    simp at this; omega
  obtain ⟨g, rfl, hcs⟩ := lkAt_row h.rk (posK K key) hl
  clear hcs
  have HT := Lib.hid h
  have hpm : pickM wd x0 r ∈ M := (List.mem_filter.1 (by rw [hw']; exact pick_mem wd x0 r)).1
  have HNX := Lib.hid fun w1 a c (hr : Row w1 77 4 a (x0 :: r).length c (mbFlat (x0 :: r))) => (show Calls Try.prog (if wd then 32 else 33) #[.slice a (x0 :: r).length c] w1 fun e w' => e = .returned (.agg #[.int .i64 (pickM wd x0 r).id, .int .i64 (pickM wd x0 r).stamp, .bool (pickM wd x0 r).waits, .string (pickM wd x0 r).key]) ∧ Below w1.heap.size w1 w' from by
    cases wd with
    | true => exact eldest_any a c x0 r w1 hr hrl
    | false => exact youngest_any a c x0 r w1 hr hrl)
  -- what the store leaves, and the rest
  have HST := Lib.hid fun w1 (hb : Below w.heap.size w w1) W (hW : Below (w1.setCell ⟨g, posK K key * 2 + 1, none⟩ (.int .i64 (pickM wd x0 r).id)).heap.size (w1.setCell ⟨g, posK K key * 2 + 1, none⟩ (.int .i64 (pickM wd x0 r).id)) W) =>
    (show Calls Try.prog 57 #[.pointer (some ⟨p, 0, none⟩), .int .i64 (pickM wd x0 r).id] W (TPost w (tbD p la (some ⟨g, 0, none⟩)) p wd (.returned (.tuple #[])) (restM M (pickM wd x0 r).id) (K.modify (posK K key) fun l => ⟨l.key, (pickM wd x0 r).id⟩)) from by
      have h1 := h.below hb
      have hr := Row.setCell h1.rk (posK K key * 2 + 1) (.int .i64 (pickM wd x0 r).id)
      rw [lkFlat_set K _ hl] at hr
      rw [modK_eq hl]
      obtain ⟨k1, k2⟩ := h1.inK (K' := K.set (posK K key) ⟨K[posK K key].key, (pickM wd x0 r).id⟩) (by simp) (by simpa using hr) (Touch.setCell (bs := blkOf (some ⟨g, 0, none⟩)) w1 ⟨g, posK K key * 2 + 1, none⟩ _ (by simp [blkOf]))
      have k3 := k1.below hW
      refine (tb_rests p wd la lc M _ kc _ (pickM wd x0 r).id W k3 hs hbig (hasM_mem hpm)).mono ?_
      rintro e W' ⟨rfl, D', t1, t2⟩
      exact ⟨rfl, D', t1, (((Step.of_below hb _).trans k2).trans (Step.of_below hW _)).trans t2⟩)
  have HFZ := Lib.hid fun w1 (hb : Below w.heap.size w w1) => (show (∃ v, w1.cell? ⟨g, posK K key * 2 + 1, none⟩ = some v) ∧ w1.frozen? ⟨g, posK K key * 2 + 1, none⟩ = false from by
    rcases (HT.out.below hb).rk.out with ⟨e, _⟩ | ⟨g', cur, e, hg, h1, h2, h3, h4, h5⟩
    · cases e
    · obtain rfl : g = g' := by simpa using e
      have hlt : posK K key * 2 + 1 < cur.size := by omega
      obtain ⟨c1, c2⟩ := cell_of_heap (i := posK K key * 2 + 1) (v := cur[posK K key * 2 + 1]) hg (by simp [hlt])
      exact ⟨⟨_, c1⟩, c2⟩)
  generalize hq : posK K key = q at *
  have HQ := Lib.hid hq
  clear hq h hs hk hh hw hw' hpm
  have HRE := Lib.hid fun e w' (hp : TPost w (tbD p la (some ⟨g, 0, none⟩)) p wd (.returned (.tuple #[])) (restM M (pickM wd x0 r).id) (K.modify q fun l => ⟨l.key, (pickM wd x0 r).id⟩) e w') => hp.1
  generalize TPost w (tbD p la (some ⟨g, 0, none⟩)) p wd (.returned (.tuple #[])) (restM M (pickM wd x0 r).id) (K.modify q fun l => ⟨l.key, (pickM wd x0 r).id⟩) = R at *
  generalize hmm : pickM wd x0 r = mm at *
  clear hmm
  obtain ⟨mi, ms, mw, mk⟩ := mm
  simp only at HNX HST
  have hl0 : (x0 :: r).length = r.length + 1 := rfl
  rw [hl0] at HW HNX
  clear hl0
  generalize r.length = rl at *
  have hne : (((rl : Int) + 1) == (0 : Int)) = false := beq_eq_false_iff_ne.2 (by omega)
  cases wd with
  | true =>
    simp only [if_true] at HNX
    go_enter Try.func58, Try.ntmps58
    go_wp2_with fail
    refine HP.out.mono ?_
    rintro e w1 ⟨rfl, hb⟩
    have HB := Lib.hid hb
    clear hb
    go_wp2_with fail
    refine (HW.out _ HB.out).mono ?_
    rintro e w2 ⟨v, rfl, a2, c2, rfl, hr2, hb2, hf2⟩
    have HB2 := Lib.hid (HB.out.trans (hb2.mono HB.out.size))
    have HR2 := Lib.hid hr2
    clear hr2 hb2 hf2
    have hc3 := (HT.out.below HB2.out).cell3
    unfold nextF at hc3
    simp only [if_true] at hc3
    go_wp2_with fail
    refine (HNX.out _ _ _ HR2.out).mono ?_
    rintro e w3 ⟨rfl, hb3⟩
    have HB3 := Lib.hid (HB2.out.trans (hb3.mono HB2.out.size))
    clear hb3 hc3
    have HB4 := Lib.hid (HB3.out.trans ((bel_new w3 (.cells #[.int .i64 mi, .int .i64 ms, .bool mw, .string mk] 77)).mono HB3.out.size))
    have hc2 := (HT.out.below HB4.out).cell2.1
    obtain ⟨⟨v5, z5⟩, f5⟩ := HFZ.out _ HB4.out
    generalize hK : K.length = n at *
    have hqn : (q : Int) < (n : Int) := by omega
    have hqz : (0 : Int) ≤ (q : Int) := by omega
    have hm0 : (w3.alloc (.cells #[.int .i64 mi, .int .i64 ms, .bool mw, .string mk] 77)).cell? ⟨w3.heap.size, 0, none⟩ = some (.int .i64 mi) := by simp [go_sem]
    have hgne : ¬ g = w3.heap.size := by
      have h1 := HT.out.rk.lt _ rfl
      have h2 := HB3.out.size
      simp at h1; omega
    have hm5 := (Touch.setCell (bs := [g]) (w3.alloc (.cells #[.int .i64 mi, .int .i64 ms, .bool mw, .string mk] 77)) ⟨g, q * 2 + 1, none⟩ (.int .i64 mi) (by simp)).cell hm0 (by simp; omega)
    have HC5 := Lib.hid (HST.out _ HB4.out _ (bel_drew _))
    go_wp2_with fail
    generalize w3.alloc (.cells #[.int .i64 mi, .int .i64 ms, .bool mw, .string mk] 77) = W4 at *
    generalize w3.heap.size = g7 at *
    go_region
    all_goals
      go_wp2_with fail
      refine HC5.out.mono ?_
      intro e w6 hq6
      have HQ6 := Lib.hid hq6
      have HE6 := Lib.hid (HRE.out e w6 hq6)
      clear hq6
      obtain rfl := HE6.out
      go_wp2_with fail
      go_end0
      exact HQ6.out
  | false =>
    simp only [Bool.false_eq_true, if_false] at HNX
    go_enter Try.func58, Try.ntmps58
    go_wp2_with fail
    refine HP.out.mono ?_
    rintro e w1 ⟨rfl, hb⟩
    have HB := Lib.hid hb
    clear hb
    go_wp2_with fail
    refine (HW.out _ HB.out).mono ?_
    rintro e w2 ⟨v, rfl, a2, c2, rfl, hr2, hb2, hf2⟩
    have HB2 := Lib.hid (HB.out.trans (hb2.mono HB.out.size))
    have HR2 := Lib.hid hr2
    clear hr2 hb2 hf2
    have hc3 := (HT.out.below HB2.out).cell3
    unfold nextF at hc3
    simp only [Bool.false_eq_true, if_false] at hc3
    go_wp2_with fail
    refine (HNX.out _ _ _ HR2.out).mono ?_
    rintro e w3 ⟨rfl, hb3⟩
    have HB3 := Lib.hid (HB2.out.trans (hb3.mono HB2.out.size))
    clear hb3 hc3
    have HB4 := Lib.hid (HB3.out.trans ((bel_new w3 (.cells #[.int .i64 mi, .int .i64 ms, .bool mw, .string mk] 77)).mono HB3.out.size))
    have hc2 := (HT.out.below HB4.out).cell2.1
    obtain ⟨⟨v5, z5⟩, f5⟩ := HFZ.out _ HB4.out
    generalize hK : K.length = n at *
    have hqn : (q : Int) < (n : Int) := by omega
    have hqz : (0 : Int) ≤ (q : Int) := by omega
    have hm0 : (w3.alloc (.cells #[.int .i64 mi, .int .i64 ms, .bool mw, .string mk] 77)).cell? ⟨w3.heap.size, 0, none⟩ = some (.int .i64 mi) := by simp [go_sem]
    have hgne : ¬ g = w3.heap.size := by
      have h1 := HT.out.rk.lt _ rfl
      have h2 := HB3.out.size
      simp at h1; omega
    have hm5 := (Touch.setCell (bs := [g]) (w3.alloc (.cells #[.int .i64 mi, .int .i64 ms, .bool mw, .string mk] 77)) ⟨g, q * 2 + 1, none⟩ (.int .i64 mi) (by simp)).cell hm0 (by simp; omega)
    have HC5 := Lib.hid (HST.out _ HB4.out _ (bel_drew _))
    go_wp2_with fail
    generalize w3.alloc (.cells #[.int .i64 mi, .int .i64 ms, .bool mw, .string mk] 77) = W4 at *
    generalize w3.heap.size = g7 at *
    go_region
    all_goals
      go_wp2_with fail
      refine HC5.out.mono ?_
      intro e w6 hq6
      have HQ6 := Lib.hid hq6
      have HE6 := Lib.hid (HRE.out e w6 hq6)
      clear hq6
      obtain rfl := HE6.out
      go_wp2_with fail
      go_end0
      exact HQ6.out
end Go.Proofs.Ytlmfpkfgjfdhgaa
