/- rests. -/
import Derived.Test.YtlmfpkfgjfdhgaaJ
namespace Go.Proofs.Ytlmfpkfgjfdhgaa
open Go.RowKit

theorem Row.setCell {w : World} {E k g n c : Nat} {xs : List Value} (h : Row w E k (some ⟨g, 0, none⟩) n c xs) (j : Nat) (v : Value) : Row (w.setCell ⟨g, j, none⟩ v) E k (some ⟨g, 0, none⟩) n c (xs.set j v) := by
  rcases h.out with ⟨e, _⟩ | ⟨g', cur, e, hg, h1, h2, h3, h4, h5⟩
  · cases e
  · obtain rfl : g = g' := by simpa using e
    refine Row.mk (heap_set hg v) h1 h2 (by simpa using h3) ?_
    rw [← h4]
    simp [List.take_set]
theorem mbFlat_set : ∀ (M : List Mb) (q : Nat) (h : q < M.length) (b : Bool) (s : ByteArray), ((mbFlat M).set (q * 4 + 2) (.bool b)).set (q * 4 + 3) (.string s) = mbFlat (M.set q ⟨M[q].id, M[q].stamp, b, s⟩)
  | [], _, h, _, _ => by cases h
  | t :: r, 0, _, b, s => by simp [mbFlat]
  | t :: r, q + 1, h, b, s => by
    have := mbFlat_set r q (by simpa using h) b s
    rw [show (q + 1) * 4 + 2 = (q * 4 + 2) + 1 + 1 + 1 + 1 by omega, show (q + 1) * 4 + 3 = (q * 4 + 3) + 1 + 1 + 1 + 1 by omega]
    simp only [mbFlat, List.set_cons_succ, List.getElem_cons_succ]
    rw [this]
theorem mbFlat_set' (M : List Mb) (q : Nat) (h : q < M.length) (b : Bool) (s : ByteArray) : ((mbFlat M).set (q * 4 + 3) (.string s)).set (q * 4 + 2) (.bool b) = mbFlat (M.set q ⟨M[q].id, M[q].stamp, b, s⟩) := by
  rw [← mbFlat_set M q h b s, List.set_comm _ _ (by omega)]
theorem lkFlat_set : ∀ (K : List Lk) (q : Nat) (h : q < K.length) (x : Int), (lkFlat K).set (q * 2 + 1) (.int .i64 x) = lkFlat (K.set q ⟨K[q].key, x⟩)
  | [], _, h, _ => by cases h
  | t :: r, 0, _, x => by simp [lkFlat]
  | t :: r, q + 1, h, x => by
    have := lkFlat_set r q (by simpa using h) x
    rw [show (q + 1) * 2 + 1 = (q * 2 + 1) + 1 + 1 by omega]
    simp only [lkFlat, List.set_cons_succ, List.getElem_cons_succ]
    rw [this]
section
variable {w w' : World} {p : Nat} {wd : Bool} {la : Option Addr} {lc : Nat} {M : List Mb} {ka : Option Addr} {kc : Nat} {K : List Lk}
theorem Tb.inM (h : Tb w p wd la lc M ka kc K) {M' : List Mb} (hl : M'.length = M.length) (hr : Row w' 77 4 la M'.length lc (mbFlat M')) (ht : Touch (blkOf la) w w') : Tb w' p wd la lc M' ka kc K ∧ Step w (tbD p la ka) w' (tbD p la ka) := by
  refine ⟨⟨by rw [hl]; exact ht.heap h.hp h.nm, hr, h.rk.touch ht fun x hx hm => h.ap _ hm (mem_blkOf.2 ⟨x, hx, rfl⟩), h.nm, h.nk, h.ap⟩, ht.mono fun x hx => .inl (by simp [tbD, hx]), fun x hx => .inl hx⟩
theorem Tb.inK (h : Tb w p wd la lc M ka kc K) {K' : List Lk} (hl : K'.length = K.length) (hr : Row w' 82 2 ka K'.length kc (lkFlat K')) (ht : Touch (blkOf ka) w w') : Tb w' p wd la lc M ka kc K' ∧ Step w (tbD p la ka) w' (tbD p la ka) := by
  refine ⟨⟨by rw [hl]; exact ht.heap h.hp h.nk, h.rm.touch ht fun x hx hm => h.ap _ (mem_blkOf.2 ⟨x, hx, rfl⟩) hm, hr, h.nm, h.nk, h.ap⟩, ht.mono fun x hx => .inl (by simp [tbD, hx]), fun x hx => .inl hx⟩
end
/-- one waits no more. -/
def restM (M : List Mb) (id : Int) : List Mb := M.modify (posM M id) fun m => ⟨m.id, m.stamp, false, ⟨#[]⟩⟩
theorem restM_eq {M : List Mb} {id : Int} (h : posM M id < M.length) : restM M id = M.set (posM M id) ⟨M[posM M id].id, M[posM M id].stamp, false, ⟨#[]⟩⟩ := by
  unfold restM
  apply List.ext_getElem
  · simp
  · intro j h1 h2
    rw [List.getElem_modify, List.getElem_set]
    split
    · rename_i e; subst e; rfl
    · rfl
/-- an ending, and the table behind it. -/
def TPost (w : World) (D : List Nat) (p : Nat) (wd : Bool) (e0 : Ending) (M : List Mb) (K : List Lk) (e : Ending) (w' : World) : Prop := e = e0 ∧ ∃ D', TbA p wd M K w' D' ∧ Step w D w' D'

set_option maxRecDepth 100000 in
set_option maxHeartbeats 2000000 in
theorem tb_rests (p : Nat) (wd : Bool) (la : Option Addr) (lc : Nat) (M : List Mb) (ka : Option Addr) (kc : Nat) (K : List Lk) (id : Int) (w : World) (h : Tb w p wd la lc M ka kc K) (hs : SortM M) (hbig : M.length ≤ 1000) (hh : hasM M id = true) :
    Calls Try.prog 57 #[.pointer (some ⟨p, 0, none⟩), .int .i64 id] w (TPost w (tbD p la ka) p wd (.returned (.tuple #[])) (restM M id) K) := by
  have HP := Lib.hid (tb_find p wd la lc M ka kc K id w h hs hbig)
  obtain ⟨hl, hide⟩ := (hasM_iff hs id).1 hh
  clear hide
  rw [restM_eq hl]
  rw [hh] at HP
  obtain ⟨g, rfl, hcs⟩ := mbAt_row h.rm (posM M id) hl
  clear hcs
  have HT := Lib.hid h
  have HFIN := Lib.hid fun w1 (hb : Below w.heap.size w w1) W (hW : Below ((w1.setCell ⟨g, posM M id * 4 + 2, none⟩ (.bool false)).setCell ⟨g, posM M id * 4 + 3, none⟩ (.string ⟨#[]⟩)).heap.size ((w1.setCell ⟨g, posM M id * 4 + 2, none⟩ (.bool false)).setCell ⟨g, posM M id * 4 + 3, none⟩ (.string ⟨#[]⟩)) W) => (show TPost w (tbD p (some ⟨g, 0, none⟩) ka) p wd (.returned (.tuple #[])) (M.set (posM M id) ⟨M[posM M id].id, M[posM M id].stamp, false, ⟨#[]⟩⟩) K (.returned (.tuple #[])) W from by
    have h1 := h.below hb
    have hr := (Row.setCell (Row.setCell h1.rm (posM M id * 4 + 2) (.bool false)) (posM M id * 4 + 3) (.string ⟨#[]⟩))
    rw [mbFlat_set M _ hl] at hr
    obtain ⟨k1, k2⟩ := h1.inM (M' := M.set (posM M id) ⟨M[posM M id].id, M[posM M id].stamp, false, ⟨#[]⟩⟩) (by simp) (by simpa using hr) ((Touch.setCell (bs := blkOf (some ⟨g, 0, none⟩)) w1 ⟨g, posM M id * 4 + 2, none⟩ (.bool false) (by simp [blkOf])).andThen (Touch.setCell _ _ _ (by simp [blkOf])))
    exact ⟨rfl, _, ⟨_, _, _, _, rfl, k1.below hW⟩, ((Step.of_below hb _).trans k2).trans (Step.of_below hW _)⟩)
  have HFIN2 := Lib.hid fun w1 (hb : Below w.heap.size w w1) W (hW : Below ((w1.setCell ⟨g, posM M id * 4 + 3, none⟩ (.string ⟨#[]⟩)).setCell ⟨g, posM M id * 4 + 2, none⟩ (.bool false)).heap.size ((w1.setCell ⟨g, posM M id * 4 + 3, none⟩ (.string ⟨#[]⟩)).setCell ⟨g, posM M id * 4 + 2, none⟩ (.bool false)) W) => (show TPost w (tbD p (some ⟨g, 0, none⟩) ka) p wd (.returned (.tuple #[])) (M.set (posM M id) ⟨M[posM M id].id, M[posM M id].stamp, false, ⟨#[]⟩⟩) K (.returned (.tuple #[])) W from by
    have h1 := h.below hb
    have hr := (Row.setCell (Row.setCell h1.rm (posM M id * 4 + 3) (.string ⟨#[]⟩)) (posM M id * 4 + 2) (.bool false))
    rw [mbFlat_set' M _ hl] at hr
    obtain ⟨k1, k2⟩ := h1.inM (M' := M.set (posM M id) ⟨M[posM M id].id, M[posM M id].stamp, false, ⟨#[]⟩⟩) (by simp) (by simpa using hr) ((Touch.setCell (bs := blkOf (some ⟨g, 0, none⟩)) w1 ⟨g, posM M id * 4 + 3, none⟩ (.string ⟨#[]⟩) (by simp [blkOf])).andThen (Touch.setCell _ _ _ (by simp [blkOf])))
    exact ⟨rfl, _, ⟨_, _, _, _, rfl, k1.below hW⟩, ((Step.of_below hb _).trans k2).trans (Step.of_below hW _)⟩)
  generalize TPost w (tbD p (some ⟨g, 0, none⟩) ka) p wd (.returned (.tuple #[])) (M.set (posM M id) ⟨M[posM M id].id, M[posM M id].stamp, false, ⟨#[]⟩⟩) K = R at *
  clear h hs hh
  have HFZ := Lib.hid fun w1 (hb : Below w.heap.size w w1) j (hj : j < 4) => (show (∃ v, w1.cell? ⟨g, posM M id * 4 + j, none⟩ = some v) ∧ w1.frozen? ⟨g, posM M id * 4 + j, none⟩ = false from by
    rcases (HT.out.below hb).rm.out with ⟨e, _⟩ | ⟨g', cur, e, hg, h1, h2, h3, h4, h5⟩
    · cases e
    · obtain rfl : g = g' := by simpa using e
      have hlt : posM M id * 4 + j < cur.size := by omega
      obtain ⟨c1, c2⟩ := cell_of_heap (i := posM M id * 4 + j) (v := cur[posM M id * 4 + j]) hg (by simp [hlt])
      exact ⟨⟨_, c1⟩, c2⟩)
  generalize hq : posM M id = q at *
  have HQ := Lib.hid hq
  clear hq
  go_enter Try.func57, Try.ntmps57
  go_wp2_with fail
  refine HP.out.mono ?_
  rintro e w1 ⟨rfl, hb⟩
  have hc := (HT.out.below hb).cell1.1
  obtain ⟨⟨v2, z2⟩, f2⟩ := HFZ.out _ hb 2 (by omega)
  obtain ⟨⟨v3, z3⟩, f3⟩ := HFZ.out _ hb 3 (by omega)
  have HB := Lib.hid hb
  clear hb
  generalize M.length = n at *
  have hqn : (q : Int) < (n : Int) := by omega
  have hqz : (0 : Int) ≤ (q : Int) := by omega
  go_wp2_with fail
  go_region
  all_goals
    go_end0
    first
      | exact HFIN.out _ HB.out _ (bel_drew _)
      | exact HFIN2.out _ HB.out _ (bel_drew _)
end Go.Proofs.Ytlmfpkfgjfdhgaa
