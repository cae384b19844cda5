/- Leave. -/
import Derived.Test.YtlmfpkfgjfdhgaaO
namespace Go.Proofs.Ytlmfpkfgjfdhgaa
open Go.RowKit

theorem gives_ids (wd : Bool) : ∀ (ks : List ByteArray) (s : List Mb × List Lk), (gives wd s ks).1.map (·.id) = s.1.map (·.id)
  | [], _ => rfl
  | k :: r, s => by
    rw [show gives wd s (k :: r) = gives wd (giveT wd s.1 s.2 k) r from rfl, gives_ids wd r]
    exact giveT_ids ..
theorem losesT_ids (wd : Bool) (M : List Mb) (K : List Lk) (id : Int) : (losesT wd M K id).1.map (·.id) = M.map (·.id) := by
  unfold losesT
  rw [gives_ids]
  exact restM_ids ..
theorem losesT_ok {wd : Bool} {M : List Mb} {K : List Lk} {id : Int} (h : TOk M K) : TOk (losesT wd M K id).1 (losesT wd M K id).2 := by
  unfold losesT
  exact gives_ok _ _ ⟨sortM_ids h.sm (restM_ids M id), h.sk, by have := congrArg List.length (restM_ids M id); simp only [List.length_map] at this; rw [this]; exact h.fm, h.fk⟩
theorem posBy_map {α β : Type} (f : α → β) (q : β → Bool) (l : List α) : posBy q (l.map f) = posBy (fun x => q (f x)) l := by
  induction l with
  | nil => rfl
  | cons x r ih => simp only [List.map_cons, posBy, ih]
theorem posM_ids {M M' : List Mb} (e : M'.map (·.id) = M.map (·.id)) (id : Int) : posM M' id = posM M id := by
  have h : ∀ L : List Mb, posM L id = posBy (fun x => decide (x < id)) (L.map (·.id)) := fun L => by rw [posBy_map]; rfl
  rw [h, h, e]
/-- one leaves. -/
def leaveT (wd : Bool) (M : List Mb) (K : List Lk) (id : Int) : Int × List Mb × List Lk :=
  if hasM M id then (0, (losesT wd M K id).1.eraseIdx (posM M id), (losesT wd M K id).2) else (6, M, K)

set_option maxRecDepth 100000 in
set_option maxHeartbeats 4000000 in
theorem tb_leave_has (p : Nat) (wd : Bool) (M : List Mb) (K : List Lk) (id : Int) (hok : TOk M K) (hh : hasM M id = true) (w : World) (D : List Nat) (h : TbA p wd M K w D) :
    Calls Try.prog 11 #[.pointer (some ⟨p, 0, none⟩), .int .i64 id] w (TPost w D p wd (.returned (.int .i64 0)) ((losesT wd M K id).1.eraseIdx (posM M id)) (losesT wd M K id).2) := by
  obtain ⟨la, lc, ka, kc, rfl, ht⟩ := h
  have HP := Lib.hid (tb_find p wd la lc M ka kc K id w ht hok.sm hok.fm)
  rw [hh] at HP
  obtain ⟨hl, -⟩ := (hasM_iff hok.sm id).1 hh
  have HL := Lib.hid fun w1 (hb : Below w.heap.size w w1) => tb_loses p wd M K id hok hh w1 (tbD p la ka) ⟨la, lc, ka, kc, rfl, ht.below hb⟩
  have hids := losesT_ids wd M K id
  have hlen2 : (losesT wd M K id).1.length = M.length := by simpa using congrArg List.length hids
  generalize (losesT wd M K id).1 = M2 at *
  generalize (losesT wd M K id).2 = K2 at *
  have HDEL := Lib.hid fun w1 (hb : Below w.heap.size w w1) la2 lc2 ka2 kc2 w2 (h2 : Tb w2 p wd la2 lc2 M2 ka2 kc2 K2) (hs2 : Step w1 (tbD p la ka) w2 (tbD p la2 ka2)) => (show Calls Try.prog 37 #[.slice la2 M2.length lc2, .int .i64 (posM M id), .int .i64 ((posM M id : Int) + 1)] w2 (fun e W' => ∃ a' n', e = .returned (.slice a' n' lc2) ∧ (∃ v, W'.cell? ⟨p, 1, none⟩ = some v) ∧ W'.frozen? ⟨p, 1, none⟩ = false ∧
      TPost w (tbD p la ka) p wd (.returned (.int .i64 0)) (M2.eraseIdx (posM M id)) K2 (.returned (.int .i64 0)) (W'.setCell ⟨p, 1, none⟩ (.slice a' n' lc2))) from by
    have hl2 : posM M id < M2.length := by omega
    rcases h2.rm.out with ⟨_, e, _⟩ | ⟨g, cur, rfl, hg, g1, g2, g3, g4, g5⟩
    · omega
    · refine (delM_any g M2.length lc2 (posM M id) cur (mbFlat M2) w2 hg g3 g1 g2 g4 (mbFlat_one M2) hl2).mono ?_
      rintro e W' ⟨rfl, hrow, ht⟩
      have hlen : (M2.eraseIdx (posM M id)).length = M2.length - 1 := by rw [List.length_eraseIdx]; simp [hl2]
      rw [mbFlat_take, mbFlat_drop, ← mbFlat_append, ← List.eraseIdx_eq_take_drop_succ, ← hlen] at hrow
      have hpn : p ∉ blkOf (some ⟨g, 0, none⟩) := h2.nm
      have hp := (Touch.heap ht h2.hp (by simpa [blkOf] using hpn))
      obtain ⟨k1, k2⟩ := h2.setM hrow (by simpa [blkOf] using ht) (Fresh.refl _ _)
      rw [hlen] at k1 k2
      exact ⟨_, _, rfl, ⟨_, (cell_of_heap (i := 1) hp rfl).1⟩, (cell_of_heap (i := 1) hp rfl).2, rfl, _, ⟨_, _, _, _, rfl, k1⟩, ((Step.of_below hb _).trans hs2).trans k2⟩)
  have hlt : (posM M id : Int) < 100000 := by have := hok.fm; omega
  clear hlen2 hids hh hl
  generalize hq : posM M id = q at *
  have HQ := Lib.hid hq
  clear hq hok
  generalize TPost w (tbD p la ka) p wd (.returned (.int .i64 0)) (M2.eraseIdx q) K2 = R at *
  clear ht
  go_enter Try.func11, Try.ntmps11
  go_wp2_with fail
  refine HP.out.mono ?_
  rintro e w1 ⟨rfl, hb⟩
  have HB := Lib.hid hb
  clear hb
  go_wp2_with fail
  refine (HL.out _ HB.out).mono ?_
  rintro e w2 ⟨rfl, D2, ⟨la2, lc2, ka2, kc2, rfl, h2⟩, hs2⟩
  have hc := h2.cell1.1
  have HD := Lib.hid (HDEL.out _ HB.out _ _ _ _ _ h2 hs2)
  clear HDEL HL HP h2 hs2
  generalize M2.length = n at *
  go_wp2_with fail
  refine HD.out.mono ?_
  rintro e w3 ⟨a', n', rfl, ⟨v3, hc3⟩, hf3, hfin⟩
  have HFIN := Lib.hid hfin
  clear hfin
  go_wp2_with fail
  exact HFIN.out
set_option maxRecDepth 100000 in
set_option maxHeartbeats 4000000 in
theorem tb_leave_not (p : Nat) (wd : Bool) (M : List Mb) (K : List Lk) (id : Int) (hok : TOk M K) (hh : hasM M id = false) (w : World) (D : List Nat) (h : TbA p wd M K w D) :
    Calls Try.prog 11 #[.pointer (some ⟨p, 0, none⟩), .int .i64 id] w (TPost w D p wd (.returned (.int .i64 6)) M K) := by
  obtain ⟨la, lc, ka, kc, rfl, ht⟩ := h
  have HP := Lib.hid (tb_find p wd la lc M ka kc K id w ht hok.sm hok.fm)
  rw [hh] at HP
  have HFIN := Lib.hid fun w1 (hb : Below w.heap.size w w1) => (show TPost w (tbD p la ka) p wd (.returned (.int .i64 6)) M K (.returned (.int .i64 6)) w1 from ⟨rfl, _, ⟨_, _, _, _, rfl, ht.below hb⟩, Step.of_below hb _⟩)
  generalize TPost w (tbD p la ka) p wd (.returned (.int .i64 6)) M K = R at *
  clear ht hok hh
  go_enter Try.func11, Try.ntmps11
  go_wp2_with fail
  refine HP.out.mono ?_
  rintro e w1 ⟨rfl, hb⟩
  have HB := Lib.hid hb
  clear hb
  go_wp2_with fail
  exact HFIN.out _ HB.out
theorem tb_leave (p : Nat) (wd : Bool) (M : List Mb) (K : List Lk) (id : Int) (hok : TOk M K) (w : World) (D : List Nat) (h : TbA p wd M K w D) :
    Calls Try.prog 11 #[.pointer (some ⟨p, 0, none⟩), .int .i64 id] w (TPost w D p wd (.returned (.int .i64 (leaveT wd M K id).1)) (leaveT wd M K id).2.1 (leaveT wd M K id).2.2) := by
  unfold leaveT
  cases hh : hasM M id with
  | true => exact tb_leave_has p wd M K id hok hh w D h
  | false => exact tb_leave_not p wd M K id hok hh w D h
theorem leaveT_ok {wd : Bool} {M : List Mb} {K : List Lk} {id : Int} (h : TOk M K) : TOk (leaveT wd M K id).2.1 (leaveT wd M K id).2.2 := by
  unfold leaveT
  split
  · have h1 := losesT_ok (wd := wd) (id := id) h
    exact ⟨h1.sm.sublist (List.eraseIdx_sublist _ _), h1.sk, Nat.le_trans (List.length_eraseIdx_le _ _) h1.fm, h1.fk⟩
  · exact h
end Go.Proofs.Ytlmfpkfgjfdhgaa
