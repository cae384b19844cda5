import Derived.Test.YtlmfpkfgjfdhgaaAY
import Derived.Test.YtlmfpkfgjfdhgaaAZ
import Derived.Test.YtlmfpkfgjfdhgaaBA
import Derived.Test.YtlmfpkfgjfdhgaaBB
import Derived.BigRegion
import Derived.Deep.RegionHeld3
import Derived.Test.YtlmfpkfgjfdhgaaAB
import Derived.Test.YtlmfpkfgjfdhgaaAE
import Derived.Test.YtlmfpkfgjfdhgaaAF
import Derived.Test.YtlmfpkfgjfdhgaaAO
/- The reference's Join and Leave, whole. -/
namespace Go.Proofs.Ytlmfpkfgjfdhgaa
open Go.RowKit

theorem rf_join (p : Nat) (wd : Bool) (M : List Mb) (K : List Lk) (id st : Int) (hok : TOk M K) (w : World) (D : List Nat) (h : RefA p wd M K w D) :
    Calls Try.prog 20 #[.pointer (some ⟨p, 0, none⟩), .int .i64 id, .int .i64 st] w (RPost p wd (joinT M id st).2 K w D (.returned (.int .i64 (joinT M id st).1))) := by
  unfold joinT
  by_cases hb : id < 0 ∨ st < 0 ∨ 1099511627776 < st
  · rw [if_pos hb]; exact rf_join_bad p wd M K id st w D h hb
  rw [if_neg hb]
  have h1 : ¬ id < 0 := fun e => hb (.inl e)
  have h2 : ¬ st < 0 := fun e => hb (.inr (.inl e))
  have h3 : ¬ 1099511627776 < st := fun e => hb (.inr (.inr e))
  cases hh : hasM M id with
  | true => simp only [if_true]; exact rf_join_is p wd M K id st hok w D h h1 h2 h3 hh
  | false =>
    by_cases hf : 64 ≤ M.length
    · simp only [if_pos hf]; exact rf_join_full p wd M K id st hok w D h h1 h2 h3 hh hf
    simp only [if_neg hf]
    obtain ⟨la, lc, ka, kc, -, hc, -, hr, -⟩ := h.parts
    have hqM : posM M id ≤ M.length := posBy_le _ M
    by_cases hlt : posM M id < M.length
    · exact rf_join_a p wd M K id st hok w D h la lc hc hr h1 h2 h3 hh hf hlt
    have hq : posM M id = M.length := by omega
    rcases hr.out with ⟨rfl, hz, rfl, -⟩ | ⟨g, cur, rfl, -, hsc, -⟩
    · exact rf_join_b p wd M K id st hok w D h none 0 hc hr h1 h2 h3 hh hf (List.eq_nil_of_length_eq_zero hz) ⟨rfl, rfl⟩
    · by_cases hcc : lc = M.length
      · exact rf_join_c p wd M K id st hok w D h _ lc hc hr h1 h2 h3 hh hf hq ⟨g, rfl⟩ hcc
      · exact rf_join_d p wd M K id st hok w D h _ lc hc hr h1 h2 h3 hh hf hq ⟨g, rfl⟩ (by omega)
set_option maxRecDepth 100000 in
set_option maxHeartbeats 1600000 in
theorem rf_leave_not (p : Nat) (wd : Bool) (M : List Mb) (K : List Lk) (id : Int) (hok : TOk M K) (hh : hasM M id = false) (w : World) (D : List Nat) (h : RefA p wd M K w D) :
    Calls Try.prog 21 #[.pointer (some ⟨p, 0, none⟩), .int .i64 id] w (RPost p wd M K w D (.returned (.int .i64 6))) := by
  have HF : Hid (∀ w', Below w.heap.size w w' → RPost p wd M K w D (.returned (.int .i64 6)) (.returned (.int .i64 6)) w') := Lib.hid fun w' hb => ⟨rfl, D, h.below hb, Step.of_below hb D⟩
  have HP := Lib.hid (rf_place p wd M K id w D h hok.sm hok.fm)
  rw [show placeI M id = -1 by unfold placeI; rw [hh]; rfl] at HP
  clear h
  generalize RPost p wd M K w D (.returned (.int .i64 6)) = R at *
  go_enter Try.func21, Try.ntmps21
  go_wp2_with fail
  refine HP.out.mono ?_
  rintro e w1 ⟨rfl, hb⟩
  have HF2 := Lib.hid (HF.out w1 hb)
  clear hb
  go_wp2_with fail
  exact HF2.out
theorem rf_leave (p : Nat) (wd : Bool) (M : List Mb) (K : List Lk) (id : Int) (hok : TOk M K) (hid : ∀ m ∈ M, 0 ≤ m.id) (w : World) (D : List Nat) (h : RefA p wd M K w D) :
    Calls Try.prog 21 #[.pointer (some ⟨p, 0, none⟩), .int .i64 id] w (RPost p wd (leaveT wd M K id).2.1 (leaveT wd M K id).2.2 w D (.returned (.int .i64 (leaveT wd M K id).1))) := by
  unfold leaveT
  cases hh : hasM M id with
  | true => exact rf_leave_has p wd M K id hok hh hid w D h
  | false => exact rf_leave_not p wd M K id hok hh w D h
/-- members' numbers are no less than 0. -/
theorem joinT_id {M : List Mb} {id st : Int} (h : ∀ m ∈ M, 0 ≤ m.id) : ∀ m ∈ (joinT M id st).2, 0 ≤ m.id := by
  unfold joinT
  split
  · exact h
  · split
    · exact h
    · split
      · exact h
      · intro m hm
        rcases mem_insAt.1 hm with rfl | hm
        · simp only; omega
        · exact h m hm
theorem losesT_id {wd : Bool} {M : List Mb} {K : List Lk} {id : Int} (h : ∀ m ∈ M, 0 ≤ m.id) : ∀ m ∈ (losesT wd M K id).1, 0 ≤ m.id := ids_nonneg h (losesT_ids wd M K id)
theorem leaveT_id {wd : Bool} {M : List Mb} {K : List Lk} {id : Int} (h : ∀ m ∈ M, 0 ≤ m.id) : ∀ m ∈ (leaveT wd M K id).2.1, 0 ≤ m.id := by
  unfold leaveT
  split
  · exact fun m hm => losesT_id h m (List.mem_of_mem_eraseIdx hm)
  · exact h
theorem askT_id {wd : Bool} {M : List Mb} {K : List Lk} {id : Int} {key : ByteArray} (h : ∀ m ∈ M, 0 ≤ m.id) : ∀ m ∈ (askT wd M K id key).2.1, 0 ≤ m.id := by
  have hw := ids_nonneg h (waitT_ids M id key)
  unfold askT
  repeat' split
  all_goals first | exact h | exact hw | exact losesT_id h | exact losesT_id hw
end Go.Proofs.Ytlmfpkfgjfdhgaa
/- The reference's Ask: what needs no age. -/
namespace Go.Proofs.Ytlmfpkfgjfdhgaa
open Go.RowKit

theorem holdI_has {K : List Lk} {key : ByteArray} (h : hasK K key = true) : holdI K key = holdK K key := by unfold holdI; rw [if_pos h]
theorem holdI_not {K : List Lk} {key : ByteArray} (h : hasK K key = false) : holdI K key = -1 := by unfold holdI; rw [h]; rfl
theorem mem_rloses {w0 w : World} {D0 : List Nat} {p : Nat} {wd : Bool} {M : List Mb} {K : List Lk} (l : List Asn) {r : List Asn} [Stables l] [Stables r] (h : Mem w0 D0 w (l ++ RefA p wd M K :: r)) (ok : TOk M K) (id : Int) (hh : hasM M id = true) (hid : ∀ m ∈ M, 0 ≤ m.id) :
    Calls Try.prog 45 #[.pointer (some ⟨p, 0, none⟩), .int .i64 id] w fun e w' => e = .returned (.tuple #[]) ∧ Mem w0 D0 w' (l ++ RefA p wd (losesT wd M K id).1 (losesT wd M K id).2 :: r) :=
  rpost_at l h fun D hA => rf_loses p wd M K id ok hh hid w D hA
section
variable (p : Nat) (wd : Bool) (M : List Mb) (K : List Lk) (id hd : Int) (key : ByteArray) (w : World) (D : List Nat)
set_option maxRecDepth 100000 in
set_option maxHeartbeats 8000000 in
theorem rf_ask_arg (hok : TOk M K) (h : RefA p wd M K w D) (hz : (16 : Int) < (key.size : Int)) :
    Calls Try.prog 22 #[.pointer (some ⟨p, 0, none⟩), .int .i64 id, .string key] w (RPost p wd (M) (K) w D (two (-1) (1))) := by
  have M0 := Lib.hid (show Mem w D w ([] ++ RefA p wd M K :: []) from Mem.start h)
  have HFIN : Hid (∀ w', Mem w D w' [RefA p wd (M) (K)] → RPost p wd (M) (K) w D (two (-1) (1)) (two (-1) (1)) w') := Lib.hid fun w' hm => by
    obtain ⟨D', ⟨D1, D2, rfl, _, h1, h2⟩, h3⟩ := hm.out
    obtain rfl : D2 = [] := h2
    rw [List.append_nil] at h3
    exact ⟨rfl, D1, h1, h3⟩
  have HF := Lib.hid (HFIN.out w M0.out)
  generalize RPost p wd (M) (K) w D (two (-1) (1)) = R at *
  clear h hok M0 HFIN
  go_enter Try.func22, Try.ntmps22
  go_wp2_with fail
  exact HF.out
set_option maxRecDepth 100000 in
set_option maxHeartbeats 8000000 in
theorem rf_ask_none (hok : TOk M K) (h : RefA p wd M K w D) (hz : ¬ (16 : Int) < (key.size : Int)) (hh : hasM M id = false) :
    Calls Try.prog 22 #[.pointer (some ⟨p, 0, none⟩), .int .i64 id, .string key] w (RPost p wd (M) (K) w D (two (-1) (6))) := by
  have M0 := Lib.hid (show Mem w D w ([] ++ RefA p wd M K :: []) from Mem.start h)
  have HFIN : Hid (∀ w', Mem w D w' [RefA p wd (M) (K)] → RPost p wd (M) (K) w D (two (-1) (6)) (two (-1) (6)) w') := Lib.hid fun w' hm => by
    obtain ⟨D', ⟨D1, D2, rfl, _, h1, h2⟩, h3⟩ := hm.out
    obtain rfl : D2 = [] := h2
    rw [List.append_nil] at h3
    exact ⟨rfl, D1, h1, h3⟩
  have HP := Lib.hid (mem_rplace (r := []) [] M0.out hok id)
  rw [show placeI M id = -1 by unfold placeI; rw [hh]; rfl] at HP
  generalize RPost p wd (M) (K) w D (two (-1) (6)) = R at *
  clear h hok M0 hh
  go_enter Try.func22, Try.ntmps22
  go_wp2_with fail
  refine HP.out.mono ?_
  rintro e w1 ⟨rfl, hm⟩
  have HF := Lib.hid (HFIN.out w1 hm)
  clear hm HFIN HP
  go_wp2_with fail
  exact HF.out
set_option maxRecDepth 100000 in
set_option maxHeartbeats 8000000 in
theorem rf_ask_state (hok : TOk M K) (h : RefA p wd M K w D) (hz : ¬ (16 : Int) < (key.size : Int)) (hh : hasM M id = true) (hl : posM M id < M.length) (hw : M[posM M id].waits = true)  :
    Calls Try.prog 22 #[.pointer (some ⟨p, 0, none⟩), .int .i64 id, .string key] w (RPost p wd (M) (K) w D (two (-1) (8))) := by
  have M0 := Lib.hid (show Mem w D w ([] ++ RefA p wd M K :: []) from Mem.start h)
  have HFIN : Hid (∀ w', Mem w D w' [RefA p wd (M) (K)] → RPost p wd (M) (K) w D (two (-1) (8)) (two (-1) (8)) w') := Lib.hid fun w' hm => by
    obtain ⟨D', ⟨D1, D2, rfl, _, h1, h2⟩, h3⟩ := hm.out
    obtain rfl : D2 = [] := h2
    rw [List.append_nil] at h3
    exact ⟨rfl, D1, h1, h3⟩
  have HP := Lib.hid (mem_rplace (r := []) [] M0.out hok id)
  rw [placeI_has hh] at HP
  have hqn : (posM M id : Int) < (M.length : Int) := by omega
  have hqz : (0 : Int) ≤ (posM M id : Int) := by omega
  have HC := Lib.hid fun w1 (hm : Mem w D w1 [RefA p wd M K]) => (show ∃ g lc, w1.cell? ⟨p, 1, none⟩ = some (.slice (some ⟨g, 0, none⟩) M.length lc) ∧ w1.cell? ⟨g, posM M id * 4 + 2, none⟩ = some (.bool M[posM M id].waits) from by
    obtain ⟨D1, hA⟩ := Mem.get (r := []) [] hm
    obtain ⟨la, lc, ka, kc, h0, hc, -, hr, -⟩ := hA.parts
    obtain ⟨g, rfl, hcs⟩ := mbAt_row hr (posM M id) hl
    exact ⟨g, lc, hc, hcs.2.2.1⟩)
  rw [hw] at HC
  generalize RPost p wd (M) (K) w D (two (-1) (8)) = R at *
  clear h hok hh hw
  go_enter Try.func22, Try.ntmps22
  go_wp2_with fail
  refine HP.out.mono ?_
  rintro e w1 ⟨rfl, hm⟩
  have M1 := Lib.hid hm
  obtain ⟨g, lc, hc1, hx⟩ := HC.out w1 hm
  clear hm M0 HP HC
  have HF := Lib.hid (HFIN.out w1 M1.out)
  clear HFIN
  go_wp2_with fail
  exact HF.out
set_option maxRecDepth 100000 in
set_option maxHeartbeats 8000000 in
theorem rf_ask_new (hok : TOk M K) (h : RefA p wd M K w D) (hz : ¬ (16 : Int) < (key.size : Int)) (hh : hasM M id = true) (hl : posM M id < M.length) (hw : M[posM M id].waits = false) (hk : hasK K key = false) (hi0 : 0 ≤ id) :
    Calls Try.prog 22 #[.pointer (some ⟨p, 0, none⟩), .int .i64 id, .string key] w (RPost p wd (M) (insAt K (posK K key) ⟨key, id⟩) w D (two (-1) (0))) := by
  have M0 := Lib.hid (show Mem w D w ([] ++ RefA p wd M K :: []) from Mem.start h)
  have HFIN : Hid (∀ w', Mem w D w' [RefA p wd (M) (insAt K (posK K key) ⟨key, id⟩)] → RPost p wd (M) (insAt K (posK K key) ⟨key, id⟩) w D (two (-1) (0)) (two (-1) (0)) w') := Lib.hid fun w' hm => by
    obtain ⟨D', ⟨D1, D2, rfl, _, h1, h2⟩, h3⟩ := hm.out
    obtain rfl : D2 = [] := h2
    rw [List.append_nil] at h3
    exact ⟨rfl, D1, h1, h3⟩
  have HP := Lib.hid (mem_rplace (r := []) [] M0.out hok id)
  rw [placeI_has hh] at HP
  have hqn : (posM M id : Int) < (M.length : Int) := by omega
  have hqz : (0 : Int) ≤ (posM M id : Int) := by omega
  have HC := Lib.hid fun w1 (hm : Mem w D w1 [RefA p wd M K]) => (show ∃ g lc, w1.cell? ⟨p, 1, none⟩ = some (.slice (some ⟨g, 0, none⟩) M.length lc) ∧ w1.cell? ⟨g, posM M id * 4 + 2, none⟩ = some (.bool M[posM M id].waits) from by
    obtain ⟨D1, hA⟩ := Mem.get (r := []) [] hm
    obtain ⟨la, lc, ka, kc, h0, hc, -, hr, -⟩ := hA.parts
    obtain ⟨g, rfl, hcs⟩ := mbAt_row hr (posM M id) hl
    exact ⟨g, lc, hc, hcs.2.2.1⟩)
  rw [hw] at HC
  have HH := Lib.hid fun w1 (hm : Mem w D w1 [RefA p wd M K]) => mem_rholder (r := []) [] hm hok key
  rw [holdI_not hk] at HH
  have HS := Lib.hid fun w1 (hm : Mem w D w1 [RefA p wd M K]) => mem_rset (r := []) [] hm hok key id (setF_new hok.sk hk hi0)
  generalize RPost p wd (M) (insAt K (posK K key) ⟨key, id⟩) w D (two (-1) (0)) = R at *
  clear h hok hh hw hk
  go_enter Try.func22, Try.ntmps22
  go_wp2_with fail
  refine HP.out.mono ?_
  rintro e w1 ⟨rfl, hm⟩
  have M1 := Lib.hid hm
  obtain ⟨g, lc, hc1, hx⟩ := HC.out w1 hm
  clear hm M0 HP HC
  go_wp2_with fail
  refine (HH.out _ M1.out).mono ?_
  rintro e w2 ⟨rfl, hm⟩
  have M2 := Lib.hid hm
  clear hm HH M1 hc1 hx
  go_wp2_with fail
  refine (HS.out _ M2.out).mono ?_
  rintro e w3 ⟨rfl, hm⟩
  have HF := Lib.hid (HFIN.out w3 hm)
  clear hm HFIN M2 HS
  go_wp2_with fail
  exact HF.out
set_option maxRecDepth 100000 in
set_option maxHeartbeats 8000000 in
theorem rf_ask_own (hok : TOk M K) (h : RefA p wd M K w D) (hz : ¬ (16 : Int) < (key.size : Int)) (hh : hasM M id = true) (hl : posM M id < M.length) (hw : M[posM M id].waits = false) (hk : hasK K key = true) (hhd : holdK K key = hd) (he : hd = id) (hi0 : 0 ≤ hd) :
    Calls Try.prog 22 #[.pointer (some ⟨p, 0, none⟩), .int .i64 id, .string key] w (RPost p wd (M) (K) w D (two (-1) (0))) := by
  have M0 := Lib.hid (show Mem w D w ([] ++ RefA p wd M K :: []) from Mem.start h)
  have HFIN : Hid (∀ w', Mem w D w' [RefA p wd (M) (K)] → RPost p wd (M) (K) w D (two (-1) (0)) (two (-1) (0)) w') := Lib.hid fun w' hm => by
    obtain ⟨D', ⟨D1, D2, rfl, _, h1, h2⟩, h3⟩ := hm.out
    obtain rfl : D2 = [] := h2
    rw [List.append_nil] at h3
    exact ⟨rfl, D1, h1, h3⟩
  have HP := Lib.hid (mem_rplace (r := []) [] M0.out hok id)
  rw [placeI_has hh] at HP
  have hqn : (posM M id : Int) < (M.length : Int) := by omega
  have hqz : (0 : Int) ≤ (posM M id : Int) := by omega
  have HC := Lib.hid fun w1 (hm : Mem w D w1 [RefA p wd M K]) => (show ∃ g lc, w1.cell? ⟨p, 1, none⟩ = some (.slice (some ⟨g, 0, none⟩) M.length lc) ∧ w1.cell? ⟨g, posM M id * 4 + 2, none⟩ = some (.bool M[posM M id].waits) from by
    obtain ⟨D1, hA⟩ := Mem.get (r := []) [] hm
    obtain ⟨la, lc, ka, kc, h0, hc, -, hr, -⟩ := hA.parts
    obtain ⟨g, rfl, hcs⟩ := mbAt_row hr (posM M id) hl
    exact ⟨g, lc, hc, hcs.2.2.1⟩)
  rw [hw] at HC
  have HH := Lib.hid fun w1 (hm : Mem w D w1 [RefA p wd M K]) => mem_rholder (r := []) [] hm hok key
  rw [holdI_has hk, hhd] at HH
  generalize RPost p wd (M) (K) w D (two (-1) (0)) = R at *
  have hb1 : (hd == -1) = false := by simp; omega
  have hb2 : (hd == id) = true := by simpa using he
  clear h hok hh hw hk hhd he hi0
  go_enter Try.func22, Try.ntmps22
  go_wp2_with fail
  refine HP.out.mono ?_
  rintro e w1 ⟨rfl, hm⟩
  have M1 := Lib.hid hm
  obtain ⟨g, lc, hc1, hx⟩ := HC.out w1 hm
  clear hm M0 HP HC
  go_wp2_with fail
  refine (HH.out _ M1.out).mono ?_
  rintro e w2 ⟨rfl, hm⟩
  have M2 := Lib.hid hm
  clear hm HH M1 hc1 hx
  have HF := Lib.hid (HFIN.out w2 M2.out)
  clear HFIN M2
  go_wp2_with fail
  exact HF.out
end
end Go.Proofs.Ytlmfpkfgjfdhgaa
/- The reference's Ask: wait-die, the younger. -/
namespace Go.Proofs.Ytlmfpkfgjfdhgaa
open Go.RowKit

section
variable (p : Nat) (wd : Bool) (M : List Mb) (K : List Lk) (id hd : Int) (key : ByteArray) (w : World) (D : List Nat)
set_option maxRecDepth 100000 in
set_option maxHeartbeats 8000000 in
theorem rf_ask_abort (hok : TOk M K) (h : RefA p wd M K w D) (hid : ∀ m ∈ M, 0 ≤ m.id) (hz : ¬ (16 : Int) < (key.size : Int)) (hh : hasM M id = true) (hl : posM M id < M.length) (hw : M[posM M id].waits = false) (hk : hasK K key = true) (hhd : holdK K key = hd) (hne : ¬ hd = id) (hi0 : 0 ≤ hd) (hh2 : hasM M hd = true) (hl2 : posM M hd < M.length) (hwd : wd = false) (hag : ¬ (ageC M[posM M id] M[posM M hd] < 0)) :
    Calls Try.prog 22 #[.pointer (some ⟨p, 0, none⟩), .int .i64 id, .string key] w (RPost p wd ((losesT wd M K id).1) ((losesT wd M K id).2) w D (two (-1) (11))) := by
  have M0 := Lib.hid (show Mem w D w ([] ++ RefA p wd M K :: []) from Mem.start h)
  have HFIN : Hid (∀ w', Mem w D w' [RefA p wd ((losesT wd M K id).1) ((losesT wd M K id).2)] → RPost p wd ((losesT wd M K id).1) ((losesT wd M K id).2) w D (two (-1) (11)) (two (-1) (11)) w') := Lib.hid fun w' hm => by
    obtain ⟨D', ⟨D1, D2, rfl, _, h1, h2⟩, h3⟩ := hm.out
    obtain rfl : D2 = [] := h2
    rw [List.append_nil] at h3
    exact ⟨rfl, D1, h1, h3⟩
  have HP := Lib.hid (mem_rplace (r := []) [] M0.out hok id)
  rw [placeI_has hh] at HP
  have hqn : (posM M id : Int) < (M.length : Int) := by omega
  have hqz : (0 : Int) ≤ (posM M id : Int) := by omega
  have HC := Lib.hid fun w1 (hm : Mem w D w1 [RefA p wd M K]) => (show ∃ g lc, w1.cell? ⟨p, 1, none⟩ = some (.slice (some ⟨g, 0, none⟩) M.length lc) ∧ w1.cell? ⟨g, posM M id * 4 + 2, none⟩ = some (.bool M[posM M id].waits) from by
    obtain ⟨D1, hA⟩ := Mem.get (r := []) [] hm
    obtain ⟨la, lc, ka, kc, h0, hc, -, hr, -⟩ := hA.parts
    obtain ⟨g, rfl, hcs⟩ := mbAt_row hr (posM M id) hl
    exact ⟨g, lc, hc, hcs.2.2.1⟩)
  rw [hw] at HC
  have HH := Lib.hid fun w1 (hm : Mem w D w1 [RefA p wd M K]) => mem_rholder (r := []) [] hm hok key
  rw [holdI_has hk, hhd] at HH
  have HLO := Lib.hid fun w1 (hm : Mem w D w1 [RefA p wd M K]) => mem_rloses (r := []) [] hm hok id hh hid
  have hq2n : (posM M hd : Int) < (M.length : Int) := by omega
  have hq2z : (0 : Int) ≤ (posM M hd : Int) := by omega
  have HPX := Lib.hid fun w1 (hm : Mem w D w1 [RefA p wd M K]) => (fun W (hb : Below w1.heap.size w1 W) => (show Calls Try.prog 44 #[.pointer (some ⟨p, 0, none⟩), .int .i64 hd] W (fun e w' => e = .returned (.int .i64 (posM M hd)) ∧ Below w1.heap.size w1 w') from by
    obtain ⟨D1, hA⟩ := Mem.get (r := []) [] hm
    have := rf_place p wd M K hd W D1 (hA.below hb) hok.sm hok.fm
    rw [placeI_has hh2] at this
    exact this.mono fun e w' ⟨he, hb'⟩ => ⟨he, hb.trans (hb'.mono hb.size)⟩))
  have HEL := Lib.hid fun W => rf_elder M[posM M id] M[posM M hd] W
  rw [show decide (ageC M[posM M id] M[posM M hd] < 0) = false from by simpa using hag] at HEL
  have K8 := Lib.hid fun w1 (hm : Mem w D w1 [RefA p wd M K]) => (show ∃ g lc, ∀ W, Below w1.heap.size w1 W → (Below w1.heap.size w1 W ∧ W.cell? ⟨p, 1, none⟩ = some (.slice (some ⟨g, 0, none⟩) M.length lc)
      ∧ W.cell? ⟨g, posM M id * 4, none⟩ = some (.int .i64 M[posM M id].id) ∧ W.cell? ⟨g, posM M id * 4 + 1, none⟩ = some (.int .i64 M[posM M id].stamp) ∧ W.cell? ⟨g, posM M id * 4 + 2, none⟩ = some (.bool M[posM M id].waits) ∧ W.cell? ⟨g, posM M id * 4 + 3, none⟩ = some (.string M[posM M id].key)
      ∧ W.cell? ⟨g, posM M hd * 4, none⟩ = some (.int .i64 M[posM M hd].id) ∧ W.cell? ⟨g, posM M hd * 4 + 1, none⟩ = some (.int .i64 M[posM M hd].stamp) ∧ W.cell? ⟨g, posM M hd * 4 + 2, none⟩ = some (.bool M[posM M hd].waits) ∧ W.cell? ⟨g, posM M hd * 4 + 3, none⟩ = some (.string M[posM M hd].key)) from by
    obtain ⟨D1, hA⟩ := Mem.get (r := []) [] hm
    obtain ⟨la, lc, ka, kc, h0, hc, -, hr, -⟩ := hA.parts
    obtain ⟨g, rfl, a1, a2, a3, a4⟩ := mbAt_row hr (posM M id) hl
    obtain ⟨g', e, b1, b2, b3, b4⟩ := mbAt_row hr (posM M hd) hl2
    obtain rfl : g = g' := by simpa using e
    have t {a : Addr} {v : Value} (hv : w1.cell? a = some v) {W : World} (hb : Below w1.heap.size w1 W) : W.cell? a = some v := (hb.cell (World.block_lt_of_cell? w1 _ hv)).trans hv
    exact ⟨g, lc, fun W hb => ⟨hb, t hc hb, t a1 hb, t a2 hb, t a3 hb, t a4 hb, t b1 hb, t b2 hb, t b3 hb, t b4 hb⟩⟩)
  have HWD := Lib.hid fun w1 (hm : Mem w D w1 [RefA p wd M K]) => mem_rwd (r := []) [] hm
  subst hwd
  generalize RPost p false ((losesT false M K id).1) ((losesT false M K id).2) w D (two (-1) (11)) = R at *
  have hb1 : (hd == -1) = false := by simp; omega
  have hb2 : (hd == id) = false := by simpa using hne
  clear h hok hh hk hhd hne hi0 hag hh2 hid
  rw [hw] at HEL K8
  generalize M[posM M id] = z1 at *
  generalize M[posM M hd] = z2 at *
  obtain ⟨zi, zs, zw, zk⟩ := z1
  obtain ⟨yi, ys, yw, yk⟩ := z2
  simp only at HEL K8 hw
  subst hw
  clear hl hl2
  generalize posM M id = q at *
  generalize posM M hd = q2 at *
  generalize M.length = mn at *
  go_enter Try.func22, Try.ntmps22
  go_wp2_with fail
  refine HP.out.mono ?_
  rintro e w1 ⟨rfl, hm⟩
  have M1 := Lib.hid hm
  obtain ⟨g, lc, hc1, hx⟩ := HC.out w1 hm
  clear hm M0 HP HC
  go_wp2_with fail
  refine (HH.out _ M1.out).mono ?_
  rintro e w2 ⟨rfl, hm⟩
  have M2 := Lib.hid hm
  clear hm HH M1 hc1 hx
  have HP3 := Lib.hid fun W (hb : Below w2.heap.size w2 W) => (show Calls Try.prog 44 #[.pointer (some ⟨p, 0, none⟩), .int .i64 hd] W (fun e w' => e = .returned (.int .i64 q2) ∧ Below w2.heap.size w2 w') from HPX.out w2 M2.out W hb)
  obtain ⟨g, lc, K9⟩ := K8.out w2 M2.out
  have KK := Lib.hid K9
  have S0 := (KK.out w2.drew (bel_drew _))
  clear K9 K8 HPX
  go_wp2_with fail
  go_region_held3 (fun W => Below w2.heap.size w2 W ∧ W.cell? ⟨p, 1, none⟩ = some (.slice (some ⟨g, 0, none⟩) mn lc)
      ∧ W.cell? ⟨g, q * 4, none⟩ = some (.int .i64 zi) ∧ W.cell? ⟨g, q * 4 + 1, none⟩ = some (.int .i64 zs) ∧ W.cell? ⟨g, q * 4 + 2, none⟩ = some (.bool false) ∧ W.cell? ⟨g, q * 4 + 3, none⟩ = some (.string zk)
      ∧ W.cell? ⟨g, q2 * 4, none⟩ = some (.int .i64 yi) ∧ W.cell? ⟨g, q2 * 4 + 1, none⟩ = some (.int .i64 ys) ∧ W.cell? ⟨g, q2 * 4 + 2, none⟩ = some (.bool yw) ∧ W.cell? ⟨g, q2 * 4 + 3, none⟩ = some (.string yk))
    (exact KK.out _ (by first | assumption | (go_split_ands; assumption)))
    (first
      | ((go_at_call 44; refine (HP3.out _ (by first | assumption | (go_split_ands; assumption))).mono ?_; rintro e w4 ⟨rfl, hb4⟩))
      | ((go_at_call 47; refine (HEL.out _).mono ?_; rintro e w5 ⟨rfl, hbe⟩; have hb5 := hb4.trans (hbe.mono hb4.size))))
  clear S0
  have M5 := Lib.hid (M2.out.below hb5)
  have hk5 := (KK.out _ hb5).2.1
  clear hb4 hbe hb5 HP3 HEL KK M2
  have hwd := HWD.out _ M5.out
  clear HWD
  go_wp2_with fail
  refine (HLO.out _ M5.out).mono ?_
  rintro e w6 ⟨rfl, hm⟩
  have HF := Lib.hid (HFIN.out w6 hm)
  clear hm HFIN M5 HLO hwd
  go_wp2_with fail
  exact HF.out
end
end Go.Proofs.Ytlmfpkfgjfdhgaa
/- The reference's Ask: wait-die, the elder. -/
namespace Go.Proofs.Ytlmfpkfgjfdhgaa
open Go.RowKit

section
variable (p : Nat) (wd : Bool) (M : List Mb) (K : List Lk) (id hd : Int) (key : ByteArray) (w : World) (D : List Nat)
set_option maxRecDepth 100000 in
set_option maxHeartbeats 8000000 in
theorem rf_ask_wait_die (hok : TOk M K) (h : RefA p wd M K w D) (hid : ∀ m ∈ M, 0 ≤ m.id) (hz : ¬ (16 : Int) < (key.size : Int)) (hh : hasM M id = true) (hl : posM M id < M.length) (hw : M[posM M id].waits = false) (hk : hasK K key = true) (hhd : holdK K key = hd) (hne : ¬ hd = id) (hi0 : 0 ≤ hd) (hh2 : hasM M hd = true) (hl2 : posM M hd < M.length) (hwd : wd = false) (hag : (ageC M[posM M id] M[posM M hd] < 0)) :
    Calls Try.prog 22 #[.pointer (some ⟨p, 0, none⟩), .int .i64 id, .string key] w (RPost p wd (waitT M id key) (K) w D (two (-1) (10))) := by
  have M0 := Lib.hid (show Mem w D w ([] ++ RefA p wd M K :: []) from Mem.start h)
  have HFIN : Hid (∀ w', Mem w D w' [RefA p wd (waitT M id key) (K)] → RPost p wd (waitT M id key) (K) w D (two (-1) (10)) (two (-1) (10)) w') := Lib.hid fun w' hm => by
    obtain ⟨D', ⟨D1, D2, rfl, _, h1, h2⟩, h3⟩ := hm.out
    obtain rfl : D2 = [] := h2
    rw [List.append_nil] at h3
    exact ⟨rfl, D1, h1, h3⟩
  have HP := Lib.hid (mem_rplace (r := []) [] M0.out hok id)
  rw [placeI_has hh] at HP
  have hqn : (posM M id : Int) < (M.length : Int) := by omega
  have hqz : (0 : Int) ≤ (posM M id : Int) := by omega
  have HC := Lib.hid fun w1 (hm : Mem w D w1 [RefA p wd M K]) => (show ∃ g lc, w1.cell? ⟨p, 1, none⟩ = some (.slice (some ⟨g, 0, none⟩) M.length lc) ∧ w1.cell? ⟨g, posM M id * 4 + 2, none⟩ = some (.bool M[posM M id].waits) from by
    obtain ⟨D1, hA⟩ := Mem.get (r := []) [] hm
    obtain ⟨la, lc, ka, kc, h0, hc, -, hr, -⟩ := hA.parts
    obtain ⟨g, rfl, hcs⟩ := mbAt_row hr (posM M id) hl
    exact ⟨g, lc, hc, hcs.2.2.1⟩)
  rw [hw] at HC
  have HH := Lib.hid fun w1 (hm : Mem w D w1 [RefA p wd M K]) => mem_rholder (r := []) [] hm hok key
  rw [holdI_has hk, hhd] at HH
  have HST := Lib.hid fun w1 (hm : Mem w D w1 [RefA p wd M K]) => mem_store (r := []) [] hm hl true key
  rw [← waitT_eq hl] at HST
  have hq2n : (posM M hd : Int) < (M.length : Int) := by omega
  have hq2z : (0 : Int) ≤ (posM M hd : Int) := by omega
  have HPX := Lib.hid fun w1 (hm : Mem w D w1 [RefA p wd M K]) => (fun W (hb : Below w1.heap.size w1 W) => (show Calls Try.prog 44 #[.pointer (some ⟨p, 0, none⟩), .int .i64 hd] W (fun e w' => e = .returned (.int .i64 (posM M hd)) ∧ Below w1.heap.size w1 w') from by
    obtain ⟨D1, hA⟩ := Mem.get (r := []) [] hm
    have := rf_place p wd M K hd W D1 (hA.below hb) hok.sm hok.fm
    rw [placeI_has hh2] at this
    exact this.mono fun e w' ⟨he, hb'⟩ => ⟨he, hb.trans (hb'.mono hb.size)⟩))
  have HEL := Lib.hid fun W => rf_elder M[posM M id] M[posM M hd] W
  rw [show decide (ageC M[posM M id] M[posM M hd] < 0) = true from by simpa using hag] at HEL
  have K8 := Lib.hid fun w1 (hm : Mem w D w1 [RefA p wd M K]) => (show ∃ g lc, ∀ W, Below w1.heap.size w1 W → (Below w1.heap.size w1 W ∧ W.cell? ⟨p, 1, none⟩ = some (.slice (some ⟨g, 0, none⟩) M.length lc)
      ∧ W.cell? ⟨g, posM M id * 4, none⟩ = some (.int .i64 M[posM M id].id) ∧ W.cell? ⟨g, posM M id * 4 + 1, none⟩ = some (.int .i64 M[posM M id].stamp) ∧ W.cell? ⟨g, posM M id * 4 + 2, none⟩ = some (.bool M[posM M id].waits) ∧ W.cell? ⟨g, posM M id * 4 + 3, none⟩ = some (.string M[posM M id].key)
      ∧ W.cell? ⟨g, posM M hd * 4, none⟩ = some (.int .i64 M[posM M hd].id) ∧ W.cell? ⟨g, posM M hd * 4 + 1, none⟩ = some (.int .i64 M[posM M hd].stamp) ∧ W.cell? ⟨g, posM M hd * 4 + 2, none⟩ = some (.bool M[posM M hd].waits) ∧ W.cell? ⟨g, posM M hd * 4 + 3, none⟩ = some (.string M[posM M hd].key)) from by
    obtain ⟨D1, hA⟩ := Mem.get (r := []) [] hm
    obtain ⟨la, lc, ka, kc, h0, hc, -, hr, -⟩ := hA.parts
    obtain ⟨g, rfl, a1, a2, a3, a4⟩ := mbAt_row hr (posM M id) hl
    obtain ⟨g', e, b1, b2, b3, b4⟩ := mbAt_row hr (posM M hd) hl2
    obtain rfl : g = g' := by simpa using e
    have t {a : Addr} {v : Value} (hv : w1.cell? a = some v) {W : World} (hb : Below w1.heap.size w1 W) : W.cell? a = some v := (hb.cell (World.block_lt_of_cell? w1 _ hv)).trans hv
    exact ⟨g, lc, fun W hb => ⟨hb, t hc hb, t a1 hb, t a2 hb, t a3 hb, t a4 hb, t b1 hb, t b2 hb, t b3 hb, t b4 hb⟩⟩)
  have HWD := Lib.hid fun w1 (hm : Mem w D w1 [RefA p wd M K]) => mem_rwd (r := []) [] hm
  subst hwd
  generalize RPost p false (waitT M id key) (K) w D (two (-1) (10)) = R at *
  have hb1 : (hd == -1) = false := by simp; omega
  have hb2 : (hd == id) = false := by simpa using hne
  clear h hok hh hk hhd hne hi0 hag hh2 hid
  rw [hw] at HEL K8
  generalize M[posM M id] = z1 at *
  generalize M[posM M hd] = z2 at *
  obtain ⟨zi, zs, zw, zk⟩ := z1
  obtain ⟨yi, ys, yw, yk⟩ := z2
  simp only at HEL K8 hw
  subst hw
  clear hl hl2
  generalize posM M id = q at *
  generalize posM M hd = q2 at *
  generalize M.length = mn at *
  go_enter Try.func22, Try.ntmps22
  go_wp2_with fail
  refine HP.out.mono ?_
  rintro e w1 ⟨rfl, hm⟩
  have M1 := Lib.hid hm
  obtain ⟨g, lc, hc1, hx⟩ := HC.out w1 hm
  clear hm M0 HP HC
  go_wp2_with fail
  refine (HH.out _ M1.out).mono ?_
  rintro e w2 ⟨rfl, hm⟩
  have M2 := Lib.hid hm
  clear hm HH M1 hc1 hx
  have HP3 := Lib.hid fun W (hb : Below w2.heap.size w2 W) => (show Calls Try.prog 44 #[.pointer (some ⟨p, 0, none⟩), .int .i64 hd] W (fun e w' => e = .returned (.int .i64 q2) ∧ Below w2.heap.size w2 w') from HPX.out w2 M2.out W hb)
  obtain ⟨g, lc, K9⟩ := K8.out w2 M2.out
  have KK := Lib.hid K9
  have S0 := (KK.out w2.drew (bel_drew _))
  clear K9 K8 HPX
  go_wp2_with fail
  go_region_held3 (fun W => Below w2.heap.size w2 W ∧ W.cell? ⟨p, 1, none⟩ = some (.slice (some ⟨g, 0, none⟩) mn lc)
      ∧ W.cell? ⟨g, q * 4, none⟩ = some (.int .i64 zi) ∧ W.cell? ⟨g, q * 4 + 1, none⟩ = some (.int .i64 zs) ∧ W.cell? ⟨g, q * 4 + 2, none⟩ = some (.bool false) ∧ W.cell? ⟨g, q * 4 + 3, none⟩ = some (.string zk)
      ∧ W.cell? ⟨g, q2 * 4, none⟩ = some (.int .i64 yi) ∧ W.cell? ⟨g, q2 * 4 + 1, none⟩ = some (.int .i64 ys) ∧ W.cell? ⟨g, q2 * 4 + 2, none⟩ = some (.bool yw) ∧ W.cell? ⟨g, q2 * 4 + 3, none⟩ = some (.string yk))
    (exact KK.out _ (by first | assumption | (go_split_ands; assumption)))
    (first
      | ((go_at_call 44; refine (HP3.out _ (by first | assumption | (go_split_ands; assumption))).mono ?_; rintro e w4 ⟨rfl, hb4⟩))
      | ((go_at_call 47; refine (HEL.out _).mono ?_; rintro e w5 ⟨rfl, hbe⟩; have hb5 := hb4.trans (hbe.mono hb4.size))))
  clear S0
  have M5 := Lib.hid (M2.out.below hb5)
  have hk5 := (KK.out _ hb5).2.1
  clear hb4 hbe hb5 HP3 HEL KK M2
  have hwd := HWD.out _ M5.out
  obtain ⟨gs, lcs, hc5, ⟨⟨v2, hv2⟩, hf2⟩, ⟨⟨v3, hv3⟩, hf3⟩, ha, hb⟩ := HST.out _ M5.out
  obtain ⟨rfl, rfl⟩ : g = gs ∧ lc = lcs := by have := hk5.symm.trans hc5; simpa using this
  clear hk5
  clear HWD HST
  have HA := Lib.hid (ha.below (bel_drew _))
  have HB := Lib.hid (hb.below (bel_drew _))
  clear ha hb
  go_wp2_with fail
  go_region
  all_goals
    clear hc5 hv2 hf2 hv3 hf3
    go_wp2_with fail
    first
      | exact HFIN.out _ HA.out
      | exact HFIN.out _ HB.out
end
end Go.Proofs.Ytlmfpkfgjfdhgaa
/- The reference's Ask: wound-wait, the younger. -/
namespace Go.Proofs.Ytlmfpkfgjfdhgaa
open Go.RowKit

section
variable (p : Nat) (wd : Bool) (M : List Mb) (K : List Lk) (id hd : Int) (key : ByteArray) (w : World) (D : List Nat)
set_option maxRecDepth 100000 in
set_option maxHeartbeats 8000000 in
theorem rf_ask_wait_wound (hok : TOk M K) (h : RefA p wd M K w D) (hid : ∀ m ∈ M, 0 ≤ m.id) (hz : ¬ (16 : Int) < (key.size : Int)) (hh : hasM M id = true) (hl : posM M id < M.length) (hw : M[posM M id].waits = false) (hk : hasK K key = true) (hhd : holdK K key = hd) (hne : ¬ hd = id) (hi0 : 0 ≤ hd) (hh2 : hasM M hd = true) (hl2 : posM M hd < M.length) (hwd : wd = true) (hag : ¬ (ageC M[posM M id] M[posM M hd] < 0)) :
    Calls Try.prog 22 #[.pointer (some ⟨p, 0, none⟩), .int .i64 id, .string key] w (RPost p wd (waitT M id key) (K) w D (two (-1) (10))) := by
  have M0 := Lib.hid (show Mem w D w ([] ++ RefA p wd M K :: []) from Mem.start h)
  have HFIN : Hid (∀ w', Mem w D w' [RefA p wd (waitT M id key) (K)] → RPost p wd (waitT M id key) (K) w D (two (-1) (10)) (two (-1) (10)) w') := Lib.hid fun w' hm => by
    obtain ⟨D', ⟨D1, D2, rfl, _, h1, h2⟩, h3⟩ := hm.out
    obtain rfl : D2 = [] := h2
    rw [List.append_nil] at h3
    exact ⟨rfl, D1, h1, h3⟩
  have HP := Lib.hid (mem_rplace (r := []) [] M0.out hok id)
  rw [placeI_has hh] at HP
  have hqn : (posM M id : Int) < (M.length : Int) := by omega
  have hqz : (0 : Int) ≤ (posM M id : Int) := by omega
  have HC := Lib.hid fun w1 (hm : Mem w D w1 [RefA p wd M K]) => (show ∃ g lc, w1.cell? ⟨p, 1, none⟩ = some (.slice (some ⟨g, 0, none⟩) M.length lc) ∧ w1.cell? ⟨g, posM M id * 4 + 2, none⟩ = some (.bool M[posM M id].waits) from by
    obtain ⟨D1, hA⟩ := Mem.get (r := []) [] hm
    obtain ⟨la, lc, ka, kc, h0, hc, -, hr, -⟩ := hA.parts
    obtain ⟨g, rfl, hcs⟩ := mbAt_row hr (posM M id) hl
    exact ⟨g, lc, hc, hcs.2.2.1⟩)
  rw [hw] at HC
  have HH := Lib.hid fun w1 (hm : Mem w D w1 [RefA p wd M K]) => mem_rholder (r := []) [] hm hok key
  rw [holdI_has hk, hhd] at HH
  have HST := Lib.hid fun w1 (hm : Mem w D w1 [RefA p wd M K]) => mem_store (r := []) [] hm hl true key
  rw [← waitT_eq hl] at HST
  have hq2n : (posM M hd : Int) < (M.length : Int) := by omega
  have hq2z : (0 : Int) ≤ (posM M hd : Int) := by omega
  have HPX := Lib.hid fun w1 (hm : Mem w D w1 [RefA p wd M K]) => (fun W (hb : Below w1.heap.size w1 W) => (show Calls Try.prog 44 #[.pointer (some ⟨p, 0, none⟩), .int .i64 hd] W (fun e w' => e = .returned (.int .i64 (posM M hd)) ∧ Below w1.heap.size w1 w') from by
    obtain ⟨D1, hA⟩ := Mem.get (r := []) [] hm
    have := rf_place p wd M K hd W D1 (hA.below hb) hok.sm hok.fm
    rw [placeI_has hh2] at this
    exact this.mono fun e w' ⟨he, hb'⟩ => ⟨he, hb.trans (hb'.mono hb.size)⟩))
  have HEL := Lib.hid fun W => rf_elder M[posM M id] M[posM M hd] W
  rw [show decide (ageC M[posM M id] M[posM M hd] < 0) = false from by simpa using hag] at HEL
  have K8 := Lib.hid fun w1 (hm : Mem w D w1 [RefA p wd M K]) => (show ∃ g lc, ∀ W, Below w1.heap.size w1 W → (Below w1.heap.size w1 W ∧ W.cell? ⟨p, 1, none⟩ = some (.slice (some ⟨g, 0, none⟩) M.length lc)
      ∧ W.cell? ⟨g, posM M id * 4, none⟩ = some (.int .i64 M[posM M id].id) ∧ W.cell? ⟨g, posM M id * 4 + 1, none⟩ = some (.int .i64 M[posM M id].stamp) ∧ W.cell? ⟨g, posM M id * 4 + 2, none⟩ = some (.bool M[posM M id].waits) ∧ W.cell? ⟨g, posM M id * 4 + 3, none⟩ = some (.string M[posM M id].key)
      ∧ W.cell? ⟨g, posM M hd * 4, none⟩ = some (.int .i64 M[posM M hd].id) ∧ W.cell? ⟨g, posM M hd * 4 + 1, none⟩ = some (.int .i64 M[posM M hd].stamp) ∧ W.cell? ⟨g, posM M hd * 4 + 2, none⟩ = some (.bool M[posM M hd].waits) ∧ W.cell? ⟨g, posM M hd * 4 + 3, none⟩ = some (.string M[posM M hd].key)) from by
    obtain ⟨D1, hA⟩ := Mem.get (r := []) [] hm
    obtain ⟨la, lc, ka, kc, h0, hc, -, hr, -⟩ := hA.parts
    obtain ⟨g, rfl, a1, a2, a3, a4⟩ := mbAt_row hr (posM M id) hl
    obtain ⟨g', e, b1, b2, b3, b4⟩ := mbAt_row hr (posM M hd) hl2
    obtain rfl : g = g' := by simpa using e
    have t {a : Addr} {v : Value} (hv : w1.cell? a = some v) {W : World} (hb : Below w1.heap.size w1 W) : W.cell? a = some v := (hb.cell (World.block_lt_of_cell? w1 _ hv)).trans hv
    exact ⟨g, lc, fun W hb => ⟨hb, t hc hb, t a1 hb, t a2 hb, t a3 hb, t a4 hb, t b1 hb, t b2 hb, t b3 hb, t b4 hb⟩⟩)
  have HWD := Lib.hid fun w1 (hm : Mem w D w1 [RefA p wd M K]) => mem_rwd (r := []) [] hm
  subst hwd
  generalize RPost p true (waitT M id key) (K) w D (two (-1) (10)) = R at *
  have hb1 : (hd == -1) = false := by simp; omega
  have hb2 : (hd == id) = false := by simpa using hne
  clear h hok hh hk hhd hne hi0 hag hh2 hid
  rw [hw] at HEL K8
  generalize M[posM M id] = z1 at *
  generalize M[posM M hd] = z2 at *
  obtain ⟨zi, zs, zw, zk⟩ := z1
  obtain ⟨yi, ys, yw, yk⟩ := z2
  simp only at HEL K8 hw
  subst hw
  clear hl hl2
  generalize posM M id = q at *
  generalize posM M hd = q2 at *
  generalize M.length = mn at *
  go_enter Try.func22, Try.ntmps22
  go_wp2_with fail
  refine HP.out.mono ?_
  rintro e w1 ⟨rfl, hm⟩
  have M1 := Lib.hid hm
  obtain ⟨g, lc, hc1, hx⟩ := HC.out w1 hm
  clear hm M0 HP HC
  go_wp2_with fail
  refine (HH.out _ M1.out).mono ?_
  rintro e w2 ⟨rfl, hm⟩
  have M2 := Lib.hid hm
  clear hm HH M1 hc1 hx
  have HP3 := Lib.hid fun W (hb : Below w2.heap.size w2 W) => (show Calls Try.prog 44 #[.pointer (some ⟨p, 0, none⟩), .int .i64 hd] W (fun e w' => e = .returned (.int .i64 q2) ∧ Below w2.heap.size w2 w') from HPX.out w2 M2.out W hb)
  obtain ⟨g, lc, K9⟩ := K8.out w2 M2.out
  have KK := Lib.hid K9
  have S0 := (KK.out w2.drew (bel_drew _))
  clear K9 K8 HPX
  go_wp2_with fail
  go_region_held3 (fun W => Below w2.heap.size w2 W ∧ W.cell? ⟨p, 1, none⟩ = some (.slice (some ⟨g, 0, none⟩) mn lc)
      ∧ W.cell? ⟨g, q * 4, none⟩ = some (.int .i64 zi) ∧ W.cell? ⟨g, q * 4 + 1, none⟩ = some (.int .i64 zs) ∧ W.cell? ⟨g, q * 4 + 2, none⟩ = some (.bool false) ∧ W.cell? ⟨g, q * 4 + 3, none⟩ = some (.string zk)
      ∧ W.cell? ⟨g, q2 * 4, none⟩ = some (.int .i64 yi) ∧ W.cell? ⟨g, q2 * 4 + 1, none⟩ = some (.int .i64 ys) ∧ W.cell? ⟨g, q2 * 4 + 2, none⟩ = some (.bool yw) ∧ W.cell? ⟨g, q2 * 4 + 3, none⟩ = some (.string yk))
    (exact KK.out _ (by first | assumption | (go_split_ands; assumption)))
    (first
      | ((go_at_call 44; refine (HP3.out _ (by first | assumption | (go_split_ands; assumption))).mono ?_; rintro e w4 ⟨rfl, hb4⟩))
      | ((go_at_call 47; refine (HEL.out _).mono ?_; rintro e w5 ⟨rfl, hbe⟩; have hb5 := hb4.trans (hbe.mono hb4.size))))
  clear S0
  have M5 := Lib.hid (M2.out.below hb5)
  have hk5 := (KK.out _ hb5).2.1
  clear hb4 hbe hb5 HP3 HEL KK M2
  have hwd := HWD.out _ M5.out
  obtain ⟨gs, lcs, hc5, ⟨⟨v2, hv2⟩, hf2⟩, ⟨⟨v3, hv3⟩, hf3⟩, ha, hb⟩ := HST.out _ M5.out
  obtain ⟨rfl, rfl⟩ : g = gs ∧ lc = lcs := by have := hk5.symm.trans hc5; simpa using this
  clear hk5
  clear HWD HST
  have HA := Lib.hid (ha.below (bel_drew _))
  have HB := Lib.hid (hb.below (bel_drew _))
  clear ha hb
  go_wp2_with fail
  go_region
  all_goals
    clear hc5 hv2 hf2 hv3 hf3
    go_wp2_with fail
    first
      | exact HFIN.out _ HA.out
      | exact HFIN.out _ HB.out
end
end Go.Proofs.Ytlmfpkfgjfdhgaa
/- The reference's Ask: wound-wait, the elder. -/
namespace Go.Proofs.Ytlmfpkfgjfdhgaa
open Go.RowKit

section
variable (p : Nat) (wd : Bool) (M : List Mb) (K : List Lk) (id hd : Int) (key : ByteArray) (w : World) (D : List Nat)
set_option maxRecDepth 100000 in
set_option maxHeartbeats 8000000 in
theorem rf_ask_wound (hok : TOk M K) (h : RefA p wd M K w D) (hid : ∀ m ∈ M, 0 ≤ m.id) (hz : ¬ (16 : Int) < (key.size : Int)) (hh : hasM M id = true) (hl : posM M id < M.length) (hw : M[posM M id].waits = false) (hk : hasK K key = true) (hhd : holdK K key = hd) (hne : ¬ hd = id) (hi0 : 0 ≤ hd) (hh2 : hasM M hd = true) (hl2 : posM M hd < M.length) (hwd : wd = true) (hag : (ageC M[posM M id] M[posM M hd] < 0)) :
    Calls Try.prog 22 #[.pointer (some ⟨p, 0, none⟩), .int .i64 id, .string key] w (RPost p wd ((losesT wd (waitT M id key) K hd).1) ((losesT wd (waitT M id key) K hd).2) w D (two (hd) (if waitsAt (losesT wd (waitT M id key) K hd).1 (posM M id) then 10 else 0))) := by
  have M0 := Lib.hid (show Mem w D w ([] ++ RefA p wd M K :: []) from Mem.start h)
  have HFIN : Hid (∀ w', Mem w D w' [RefA p wd ((losesT wd (waitT M id key) K hd).1) ((losesT wd (waitT M id key) K hd).2)] → RPost p wd ((losesT wd (waitT M id key) K hd).1) ((losesT wd (waitT M id key) K hd).2) w D (two (hd) (if waitsAt (losesT wd (waitT M id key) K hd).1 (posM M id) then 10 else 0)) (two (hd) (if waitsAt (losesT wd (waitT M id key) K hd).1 (posM M id) then 10 else 0)) w') := Lib.hid fun w' hm => by
    obtain ⟨D', ⟨D1, D2, rfl, _, h1, h2⟩, h3⟩ := hm.out
    obtain rfl : D2 = [] := h2
    rw [List.append_nil] at h3
    exact ⟨rfl, D1, h1, h3⟩
  have HP := Lib.hid (mem_rplace (r := []) [] M0.out hok id)
  rw [placeI_has hh] at HP
  have hqn : (posM M id : Int) < (M.length : Int) := by omega
  have hqz : (0 : Int) ≤ (posM M id : Int) := by omega
  have HC := Lib.hid fun w1 (hm : Mem w D w1 [RefA p wd M K]) => (show ∃ g lc, w1.cell? ⟨p, 1, none⟩ = some (.slice (some ⟨g, 0, none⟩) M.length lc) ∧ w1.cell? ⟨g, posM M id * 4 + 2, none⟩ = some (.bool M[posM M id].waits) from by
    obtain ⟨D1, hA⟩ := Mem.get (r := []) [] hm
    obtain ⟨la, lc, ka, kc, h0, hc, -, hr, -⟩ := hA.parts
    obtain ⟨g, rfl, hcs⟩ := mbAt_row hr (posM M id) hl
    exact ⟨g, lc, hc, hcs.2.2.1⟩)
  rw [hw] at HC
  have HH := Lib.hid fun w1 (hm : Mem w D w1 [RefA p wd M K]) => mem_rholder (r := []) [] hm hok key
  rw [holdI_has hk, hhd] at HH
  have HST := Lib.hid fun w1 (hm : Mem w D w1 [RefA p wd M K]) => mem_store (r := []) [] hm hl true key
  rw [← waitT_eq hl] at HST
  have HLO := Lib.hid fun w1 (hm : Mem w D w1 [RefA p wd (waitT M id key) K]) => mem_rloses (r := []) [] hm (waitT_ok hok) hd ((hasM_ids (waitT_ids M id key) hd).trans hh2) (ids_nonneg hid (waitT_ids M id key))
  have hql2 : posM M id < (losesT wd (waitT M id key) K hd).1.length := by
    have := congrArg List.length ((losesT_ids wd (waitT M id key) K hd).trans (waitT_ids M id key))
    simp only [List.length_map] at this
    omega
  rw [show waitsAt (losesT wd (waitT M id key) K hd).1 (posM M id) = (losesT wd (waitT M id key) K hd).1[posM M id].waits from waitsAt_eq hql2] at HFIN ⊢
  have HC2 := Lib.hid fun w1 (hm : Mem w D w1 [RefA p wd (losesT wd (waitT M id key) K hd).1 (losesT wd (waitT M id key) K hd).2]) => (show ∃ g lc, w1.cell? ⟨p, 1, none⟩ = some (.slice (some ⟨g, 0, none⟩) (losesT wd (waitT M id key) K hd).1.length lc) ∧ w1.cell? ⟨g, posM M id * 4 + 2, none⟩ = some (.bool (losesT wd (waitT M id key) K hd).1[posM M id].waits) from by
    obtain ⟨D1, hA⟩ := Mem.get (r := []) [] hm
    obtain ⟨la, lc, ka, kc, h0, hc, -, hr, -⟩ := hA.parts
    obtain ⟨g, rfl, hcs⟩ := mbAt_row hr (posM M id) hql2
    exact ⟨g, lc, hc, hcs.2.2.1⟩)
  have hq3 : (posM M id : Int) < ((losesT wd (waitT M id key) K hd).1.length : Int) := by omega
  have hq2n : (posM M hd : Int) < (M.length : Int) := by omega
  have hq2z : (0 : Int) ≤ (posM M hd : Int) := by omega
  have HPX := Lib.hid fun w1 (hm : Mem w D w1 [RefA p wd M K]) => (fun W (hb : Below w1.heap.size w1 W) => (show Calls Try.prog 44 #[.pointer (some ⟨p, 0, none⟩), .int .i64 hd] W (fun e w' => e = .returned (.int .i64 (posM M hd)) ∧ Below w1.heap.size w1 w') from by
    obtain ⟨D1, hA⟩ := Mem.get (r := []) [] hm
    have := rf_place p wd M K hd W D1 (hA.below hb) hok.sm hok.fm
    rw [placeI_has hh2] at this
    exact this.mono fun e w' ⟨he, hb'⟩ => ⟨he, hb.trans (hb'.mono hb.size)⟩))
  have HEL := Lib.hid fun W => rf_elder M[posM M id] M[posM M hd] W
  rw [show decide (ageC M[posM M id] M[posM M hd] < 0) = true from by simpa using hag] at HEL
  have K8 := Lib.hid fun w1 (hm : Mem w D w1 [RefA p wd M K]) => (show ∃ g lc, ∀ W, Below w1.heap.size w1 W → (Below w1.heap.size w1 W ∧ W.cell? ⟨p, 1, none⟩ = some (.slice (some ⟨g, 0, none⟩) M.length lc)
      ∧ W.cell? ⟨g, posM M id * 4, none⟩ = some (.int .i64 M[posM M id].id) ∧ W.cell? ⟨g, posM M id * 4 + 1, none⟩ = some (.int .i64 M[posM M id].stamp) ∧ W.cell? ⟨g, posM M id * 4 + 2, none⟩ = some (.bool M[posM M id].waits) ∧ W.cell? ⟨g, posM M id * 4 + 3, none⟩ = some (.string M[posM M id].key)
      ∧ W.cell? ⟨g, posM M hd * 4, none⟩ = some (.int .i64 M[posM M hd].id) ∧ W.cell? ⟨g, posM M hd * 4 + 1, none⟩ = some (.int .i64 M[posM M hd].stamp) ∧ W.cell? ⟨g, posM M hd * 4 + 2, none⟩ = some (.bool M[posM M hd].waits) ∧ W.cell? ⟨g, posM M hd * 4 + 3, none⟩ = some (.string M[posM M hd].key)) from by
    obtain ⟨D1, hA⟩ := Mem.get (r := []) [] hm
    obtain ⟨la, lc, ka, kc, h0, hc, -, hr, -⟩ := hA.parts
    obtain ⟨g, rfl, a1, a2, a3, a4⟩ := mbAt_row hr (posM M id) hl
    obtain ⟨g', e, b1, b2, b3, b4⟩ := mbAt_row hr (posM M hd) hl2
    obtain rfl : g = g' := by simpa using e
    have t {a : Addr} {v : Value} (hv : w1.cell? a = some v) {W : World} (hb : Below w1.heap.size w1 W) : W.cell? a = some v := (hb.cell (World.block_lt_of_cell? w1 _ hv)).trans hv
    exact ⟨g, lc, fun W hb => ⟨hb, t hc hb, t a1 hb, t a2 hb, t a3 hb, t a4 hb, t b1 hb, t b2 hb, t b3 hb, t b4 hb⟩⟩)
  have HWD := Lib.hid fun w1 (hm : Mem w D w1 [RefA p wd M K]) => mem_rwd (r := []) [] hm
  subst hwd
  generalize hbvd : (losesT true (waitT M id key) K hd).1[posM M id].waits = bv at *
  clear hbvd hql2
  generalize (losesT true (waitT M id key) K hd).1 = M9 at *
  generalize (losesT true (waitT M id key) K hd).2 = K9 at *
  generalize RPost p true M9 K9 w D (two hd (if bv = true then 10 else 0)) = R at *
  have hb1 : (hd == -1) = false := by simp; omega
  have hb2 : (hd == id) = false := by simpa using hne
  clear h hok hh hk hhd hne hi0 hag hh2 hid
  rw [hw] at HEL K8
  generalize M[posM M id] = z1 at *
  generalize M[posM M hd] = z2 at *
  obtain ⟨zi, zs, zw, zk⟩ := z1
  obtain ⟨yi, ys, yw, yk⟩ := z2
  simp only at HEL K8 hw
  subst hw
  clear hl hl2
  generalize posM M id = q at *
  generalize posM M hd = q2 at *
  generalize M.length = mn at *
  go_enter Try.func22, Try.ntmps22
  go_wp2_with fail
  refine HP.out.mono ?_
  rintro e w1 ⟨rfl, hm⟩
  have M1 := Lib.hid hm
  obtain ⟨g, lc, hc1, hx⟩ := HC.out w1 hm
  clear hm M0 HP HC
  go_wp2_with fail
  refine (HH.out _ M1.out).mono ?_
  rintro e w2 ⟨rfl, hm⟩
  have M2 := Lib.hid hm
  clear hm HH M1 hc1 hx
  have HP3 := Lib.hid fun W (hb : Below w2.heap.size w2 W) => (show Calls Try.prog 44 #[.pointer (some ⟨p, 0, none⟩), .int .i64 hd] W (fun e w' => e = .returned (.int .i64 q2) ∧ Below w2.heap.size w2 w') from HPX.out w2 M2.out W hb)
  obtain ⟨g, lc, K9⟩ := K8.out w2 M2.out
  have KK := Lib.hid K9
  have S0 := (KK.out w2.drew (bel_drew _))
  clear K9 K8 HPX
  go_wp2_with fail
  go_region_held3 (fun W => Below w2.heap.size w2 W ∧ W.cell? ⟨p, 1, none⟩ = some (.slice (some ⟨g, 0, none⟩) mn lc)
      ∧ W.cell? ⟨g, q * 4, none⟩ = some (.int .i64 zi) ∧ W.cell? ⟨g, q * 4 + 1, none⟩ = some (.int .i64 zs) ∧ W.cell? ⟨g, q * 4 + 2, none⟩ = some (.bool false) ∧ W.cell? ⟨g, q * 4 + 3, none⟩ = some (.string zk)
      ∧ W.cell? ⟨g, q2 * 4, none⟩ = some (.int .i64 yi) ∧ W.cell? ⟨g, q2 * 4 + 1, none⟩ = some (.int .i64 ys) ∧ W.cell? ⟨g, q2 * 4 + 2, none⟩ = some (.bool yw) ∧ W.cell? ⟨g, q2 * 4 + 3, none⟩ = some (.string yk))
    (exact KK.out _ (by first | assumption | (go_split_ands; assumption)))
    (first
      | ((go_at_call 44; refine (HP3.out _ (by first | assumption | (go_split_ands; assumption))).mono ?_; rintro e w4 ⟨rfl, hb4⟩))
      | ((go_at_call 47; refine (HEL.out _).mono ?_; rintro e w5 ⟨rfl, hbe⟩; have hb5 := hb4.trans (hbe.mono hb4.size))))
  clear S0
  have M5 := Lib.hid (M2.out.below hb5)
  have hk5 := (KK.out _ hb5).2.1
  clear hb4 hbe hb5 HP3 HEL KK M2
  have hwd := HWD.out _ M5.out
  obtain ⟨gs, lcs, hc5, ⟨⟨v2, hv2⟩, hf2⟩, ⟨⟨v3, hv3⟩, hf3⟩, ha, hb⟩ := HST.out _ M5.out
  obtain ⟨rfl, rfl⟩ : g = gs ∧ lc = lcs := by have := hk5.symm.trans hc5; simpa using this
  clear hk5
  clear HWD HST
  have HA := Lib.hid (ha.below (bel_drew _))
  have HB := Lib.hid (hb.below (bel_drew _))
  clear ha hb
  go_wp2_with fail
  go_region
  all_goals
    clear hc5 hv2 hf2 hv3 hf3
    go_wp2_with fail
    refine (HLO.out _ (by first | exact HA.out | exact HB.out)).mono ?_
    rintro e w6 ⟨rfl, hm⟩
    have M6 := Lib.hid hm
    obtain ⟨g6, lc6, hc6, hx6⟩ := HC2.out _ hm
    clear hm HLO HA HB M5 HC2
    have HF := Lib.hid (HFIN.out _ M6.out)
    clear M6 HFIN
    cases hbv : bv with
    | true =>
      subst hbv
      go_wp2_with fail
      exact HF.out
    | false =>
      subst hbv
      go_wp2_with fail
      exact HF.out
end
end Go.Proofs.Ytlmfpkfgjfdhgaa
/- Two equal lists are the same. -/
namespace Go.Proofs.Ytlmfpkfgjfdhgaa
open Go.RowKit

set_option maxRecDepth 100000 in
set_option maxHeartbeats 1600000 in
theorem same_i (a b : Option Addr) (c d n : Nat) (l : List Int) (w : World) (hn : n = l.length) (hr : Row w 3 1 a n c (l.map (Value.int .i64))) (hs : Row w 3 1 b n d (l.map (Value.int .i64))) (hbig : n ≤ 1000000) :
    Calls Try.prog 25 #[.slice a n c, .slice b n d] w fun e w' => e = .returned (.bool true) ∧ Below w.heap.size w w' := by
  have HR := Lib.hid hr
  have HS := Lib.hid hs
  clear hr hs
  go_enter Try.func25, Try.ntmps25
  go_wp2_with fail
  go_loopw [13] (fun jv wr => ∃ q : Nat, q ≤ n ∧ jv = .int .i64 q ∧ Hid (Below w.heap.size w wr)) (fun jv _ => n - (intOf jv).toNat)
  case atStart => exact ⟨0, Nat.zero_le _, rfl, Lib.hid (Below.refl _ _)⟩
  case round =>
    obtain ⟨W1, rfl⟩ : ∃ W1, W1 = wr := ⟨_, rfl⟩
    obtain ⟨q, hq, rfl, HB⟩ := hrel
    by_cases hlt : q < n
    · have hlt0 := hlt
      obtain ⟨g, rfl, hx⟩ := (HR.out.below HB.out).cellAt q (by rw [List.length_map]; omega)
      obtain ⟨g2, rfl, hy⟩ := (HS.out.below HB.out).cellAt q (by rw [List.length_map]; omega)
      rw [List.getElem_map] at hx hy
      have hql0 : q < l.length := by omega
      generalize l[q] = x at *
      have HB2 := Lib.hid (HB.out.drew)
      clear HB
      have hqn : (q : Int) < (n : Int) := by omega
      have hqz : (0 : Int) ≤ (q : Int) := by omega
      have hql : (q : Int) < (n : Int) := by omega
      go_wp2_with fail
      go_region
      all_goals
        go_wp2_with fail
        go_roundw
        case rel => exact ⟨q + 1, by omega, by go_num, HB2⟩
        case measure => simp [intOf]; omega
    · obtain rfl : n = q := by omega
      go_wp2_with fail
      go_ret
      exact ⟨rfl, HB.out⟩
set_option maxRecDepth 100000 in
set_option maxHeartbeats 1600000 in
theorem same_s (a b : Option Addr) (c d n : Nat) (l : List ByteArray) (w : World) (hn : n = l.length) (hr : Row w 9 1 a n c (l.map Value.string)) (hs : Row w 9 1 b n d (l.map Value.string)) (hbig : n ≤ 1000000) :
    Calls Try.prog 28 #[.slice a n c, .slice b n d] w fun e w' => e = .returned (.bool true) ∧ Below w.heap.size w w' := by
  have HR := Lib.hid hr
  have HS := Lib.hid hs
  clear hr hs
  go_enter Try.func28, Try.ntmps28
  go_wp2_with fail
  go_loopw [13] (fun jv wr => ∃ q : Nat, q ≤ n ∧ jv = .int .i64 q ∧ Hid (Below w.heap.size w wr)) (fun jv _ => n - (intOf jv).toNat)
  case atStart => exact ⟨0, Nat.zero_le _, rfl, Lib.hid (Below.refl _ _)⟩
  case round =>
    obtain ⟨W1, rfl⟩ : ∃ W1, W1 = wr := ⟨_, rfl⟩
    obtain ⟨q, hq, rfl, HB⟩ := hrel
    by_cases hlt : q < n
    · have hlt0 := hlt
      obtain ⟨g, rfl, hx⟩ := (HR.out.below HB.out).cellAt q (by rw [List.length_map]; omega)
      obtain ⟨g2, rfl, hy⟩ := (HS.out.below HB.out).cellAt q (by rw [List.length_map]; omega)
      rw [List.getElem_map] at hx hy
      have hql0 : q < l.length := by omega
      generalize l[q] = x at *
      have HB2 := Lib.hid (HB.out.drew)
      clear HB
      have hqn : (q : Int) < (n : Int) := by omega
      have hqz : (0 : Int) ≤ (q : Int) := by omega
      have hql : (q : Int) < (n : Int) := by omega
      go_wp2_with fail
      go_region
      all_goals
        go_wp2_with fail
        go_roundw
        case rel => exact ⟨q + 1, by omega, by go_num, HB2⟩
        case measure => simp [intOf]; omega
    · obtain rfl : n = q := by omega
      go_wp2_with fail
      go_ret
      exact ⟨rfl, HB.out⟩
end Go.Proofs.Ytlmfpkfgjfdhgaa
/- Two equal lists of edges are the same. -/
namespace Go.Proofs.Ytlmfpkfgjfdhgaa
open Go.RowKit

theorem edgeFlat_lenJ (l : List (Int × Int)) : (edgeFlat l).length = l.length * 2 := by
  unfold edgeFlat
  induction l with
  | nil => rfl
  | cons t r ih => rw [List.flatMap_cons, List.length_append, ih, List.length_cons]; simp; omega
theorem edgeFlat_at (l : List (Int × Int)) : ∀ (q : Nat) (h : q < l.length), (∀ h1, (edgeFlat l)[q * 2]'h1 = .int .i64 l[q].1) ∧ ∀ h2, (edgeFlat l)[q * 2 + 1]'h2 = .int .i64 l[q].2 := by
  induction l with
  | nil => intro q h; simp at h
  | cons t r ih =>
    intro q h
    cases q with
    | zero => exact ⟨fun _ => rfl, fun _ => rfl⟩
    | succ q =>
      obtain ⟨i1, i2⟩ := ih q (by simpa using h)
      have e : edgeFlat (t :: r) = .int .i64 t.1 :: .int .i64 t.2 :: edgeFlat r := rfl
      refine ⟨fun h1 => ?_, fun h2 => ?_⟩
      · simp only [e, show (q + 1) * 2 = q * 2 + 1 + 1 by omega, List.getElem_cons_succ]
        exact i1 _
      · simp only [e, show (q + 1) * 2 + 1 = q * 2 + 1 + 1 + 1 by omega, List.getElem_cons_succ]
        exact i2 _
set_option maxRecDepth 100000 in
set_option maxHeartbeats 1600000 in
theorem same_e (a b : Option Addr) (c d n : Nat) (l : List (Int × Int)) (w : World) (hn : n = l.length) (hr : Row w 44 2 a n c (edgeFlat l)) (hs : Row w 44 2 b n d (edgeFlat l)) (hbig : n ≤ 1000000) :
    Calls Try.prog 31 #[.slice a n c, .slice b n d] w fun e w' => e = .returned (.bool true) ∧ Below w.heap.size w w' := by
  have HR := Lib.hid hr
  have HS := Lib.hid hs
  clear hr hs
  go_enter Try.func31, Try.ntmps31
  go_wp2_with fail
  go_loopw [13] (fun jv wr => ∃ q : Nat, q ≤ n ∧ jv = .int .i64 q ∧ Hid (Below w.heap.size w wr)) (fun jv _ => n - (intOf jv).toNat)
  case atStart => exact ⟨0, Nat.zero_le _, rfl, Lib.hid (Below.refl _ _)⟩
  case round =>
    obtain ⟨W1, rfl⟩ : ∃ W1, W1 = wr := ⟨_, rfl⟩
    obtain ⟨q, hq, rfl, HB⟩ := hrel
    by_cases hlt : q < n
    · have hlt0 := hlt
      have hlen : q * 2 + 1 < (edgeFlat l).length := by rw [edgeFlat_lenJ]; omega
      obtain ⟨g, rfl, hx⟩ := (HR.out.below HB.out).cellAt (q * 2) (by omega)
      obtain ⟨g2, rfl, hy⟩ := (HS.out.below HB.out).cellAt (q * 2) (by omega)
      obtain ⟨g', e', hx2⟩ := (HR.out.below HB.out).cellAt (q * 2 + 1) (by omega)
      obtain ⟨g2', e2', hy2⟩ := (HS.out.below HB.out).cellAt (q * 2 + 1) (by omega)
      obtain rfl : g = g' := by simpa using e'
      obtain rfl : g2 = g2' := by simpa using e2'
      have hql0 : q < l.length := by omega
      obtain ⟨f0, f1⟩ := edgeFlat_at l q hql0
      rw [f0] at hx hy
      rw [f1] at hx2 hy2
      clear e' e2' f0 f1 hlen
      generalize l[q].1 = x at *
      generalize l[q].2 = y at *
      have HB2 := Lib.hid (HB.out.drew)
      clear HB
      have hqn : (q : Int) < (n : Int) := by omega
      have hqz : (0 : Int) ≤ (q : Int) := by omega
      have hql : (q : Int) < (n : Int) := by omega
      go_wp2_with fail
      go_region
      all_goals
        go_wp2_with fail
        go_roundw
        case rel => exact ⟨q + 1, by omega, by go_num, HB2⟩
        case measure => simp [intOf]; omega
    · obtain rfl : n = q := by omega
      go_wp2_with fail
      go_ret
      exact ⟨rfl, HB.out⟩
end Go.Proofs.Ytlmfpkfgjfdhgaa
/- The reference's calls, whole, beside other things. -/
namespace Go.Proofs.Ytlmfpkfgjfdhgaa
open Go.RowKit

theorem rf_ask (p : Nat) (wd : Bool) (M : List Mb) (K : List Lk) (id : Int) (key : ByteArray) (hok : TOk M K) (hI : ∀ l ∈ K, hasM M l.holder = true) (hid : ∀ m ∈ M, 0 ≤ m.id) (w : World) (D : List Nat) (h : RefA p wd M K w D) :
    Calls Try.prog 22 #[.pointer (some ⟨p, 0, none⟩), .int .i64 id, .string key] w (RPost p wd (askT wd M K id key).2.1 (askT wd M K id key).2.2 w D (two (askT wd M K id key).1.1 (askT wd M K id key).1.2)) := by
  unfold askT
  by_cases hz : (16 : Int) < (key.size : Int)
  · rw [if_pos hz]; exact rf_ask_arg p wd M K id key w D hok h hz
  rw [if_neg hz]
  by_cases hh : hasM M id = false
  · rw [if_pos hh]; exact rf_ask_none p wd M K id key w D hok h hz hh
  rw [if_neg hh]
  have hh : hasM M id = true := by simpa using hh
  obtain ⟨hl, hle⟩ := (hasM_iff hok.sm id).1 hh
  have hi0 : 0 ≤ id := hle ▸ hid _ (List.getElem_mem hl)
  rw [waitsAt_eq hl]
  by_cases hw : M[posM M id].waits = true
  · rw [if_pos hw]; exact rf_ask_state p wd M K id key w D hok h hz hh hl hw
  rw [if_neg hw]
  have hw : M[posM M id].waits = false := by simpa using hw
  by_cases hk : hasK K key = false
  · rw [if_pos hk]; exact rf_ask_new p wd M K id key w D hok h hz hh hl hw hk hi0
  rw [if_neg hk]
  have hk : hasK K key = true := by simpa using hk
  obtain ⟨hlk, -⟩ := (hasK_iff hok.sk key).1 hk
  have hhd0 : K[posK K key].holder = holdK K key := by unfold holdK; rw [hk]; simp [hlk]
  have hh2 : hasM M (holdK K key) = true := hhd0 ▸ hI _ (List.getElem_mem hlk)
  obtain ⟨hl2, hle2⟩ := (hasM_iff hok.sm (holdK K key)).1 hh2
  have hh0 : 0 ≤ holdK K key := by have := hid _ (List.getElem_mem hl2); rw [hle2] at this; exact this
  clear hle2
  generalize hhd : holdK K key = hd at *
  by_cases he : hd = id
  · rw [if_pos he]; exact rf_ask_own p wd M K id hd key w D hok h hz hh hl hw hk hhd he hh0
  rw [if_neg he]
  rw [mbOf_eq hl, mbOf_eq hl2]
  by_cases ha : ageC M[posM M id] M[posM M hd] < 0
  · rw [if_pos ha]
    by_cases hwd : wd = true
    · rw [if_pos hwd]; exact rf_ask_wound p wd M K id hd key w D hok h hid hz hh hl hw hk hhd he hh0 hh2 hl2 hwd ha
    · rw [if_neg hwd]; exact rf_ask_wait_die p wd M K id hd key w D hok h hid hz hh hl hw hk hhd he hh0 hh2 hl2 (by simpa using hwd) ha
  · rw [if_neg ha]
    by_cases hwd : wd = true
    · rw [if_pos hwd]; exact rf_ask_wait_wound p wd M K id hd key w D hok h hid hz hh hl hw hk hhd he hh0 hh2 hl2 hwd ha
    · rw [if_neg hwd]; exact rf_ask_abort p wd M K id hd key w D hok h hid hz hh hl hw hk hhd he hh0 hh2 hl2 (by simpa using hwd) ha
/-- what holds of both tables. -/
structure ROk (M : List Mb) (K : List Lk) : Prop where
  s : SOk M K
  id : ∀ m ∈ M, 0 ≤ m.id
theorem ROk.nil : ROk [] [] := ⟨SOk.nil, fun _ h => by cases h⟩
theorem ROk.hold {M : List Mb} {K : List Lk} (h : ROk M K) {key : ByteArray} (hk : hasK K key = true) : 0 ≤ holdK K key := by
  obtain ⟨hlk, -⟩ := (hasK_iff h.s.ok.sk key).1 hk
  have hhd0 : K[posK K key].holder = holdK K key := by unfold holdK; rw [hk]; simp [hlk]
  have hh2 : hasM M (holdK K key) = true := hhd0 ▸ h.s.hold _ (List.getElem_mem hlk)
  obtain ⟨hl2, hle2⟩ := (hasM_iff h.s.ok.sm (holdK K key)).1 hh2
  have := h.id _ (List.getElem_mem hl2)
  rw [hle2] at this; exact this
theorem perm_sorted {α : Type} {R : α → α → Prop} : ∀ (l1 l2 : List α), l1.Perm l2 → (∀ a ∈ l1, ∀ b ∈ l1, R a b → R b a → a = b) → l1.Pairwise R → l2.Pairwise R → l1 = l2
  | [], l2, hp, _, _, _ => (List.Perm.nil_eq hp)
  | a :: r, [], hp, _, _, _ => absurd hp.length_eq (by simp)
  | a :: r, b :: s, hp, ha, h1, h2 => by
    obtain ⟨a1, a2⟩ := List.pairwise_cons.1 h1
    obtain ⟨b1, b2⟩ := List.pairwise_cons.1 h2
    have hbm : b ∈ a :: r := hp.symm.subset (List.mem_cons_self ..)
    have ham : a ∈ b :: s := hp.subset (List.mem_cons_self ..)
    have e : a = b := by
      rcases List.mem_cons.1 hbm with e | hb
      · exact e.symm
      · rcases List.mem_cons.1 ham with e | hs
        · exact e
        · exact ha a (List.mem_cons_self ..) b hbm (a1 b hb) (b1 a hs)
    subst e
    rw [perm_sorted r s hp.cons_inv (fun x hx y hy => ha x (List.mem_cons_of_mem _ hx) y (List.mem_cons_of_mem _ hy)) a2 b2]
theorem waits_same {M S T : List Mb} {key : ByteArray} (hs : SortM M) (h1 : S.Perm (waitM M key)) (h2 : ByAge S) (h3 : T.Perm (waitM M key)) (h4 : ByAge T) : S = T := by
  have hm : ∀ a ∈ S, a ∈ M := fun a ha => by
    have := h1.subset ha
    unfold waitM at this
    exact (List.mem_filter.1 this).1
  refine perm_sorted S T (h1.trans h3.symm) (fun a ha b hb r1 r2 => ?_) h2 h4
  exact sortM_id hs (hm a ha) (hm b hb) (age_id (fun h => r2 ((older_iff _ _).1 h)) (fun h => r1 ((older_iff _ _).1 h)))
section
variable {w0 w : World} {D0 : List Nat} {p : Nat} {wd : Bool} {M M' : List Mb} {K K' : List Lk} (l : List Asn) {r : List Asn} [Stables l] [Stables r] {id stamp x y : Int} {key : ByteArray}
theorem ROk.join (h : ROk M K) (e : joinT M id stamp = (x, M')) : ROk M' K := by
  have h1 := joinT_id (id := id) (st := stamp) h.id
  rw [e] at h1; exact ⟨h.s.join e, h1⟩
theorem ROk.leave (h : ROk M K) (e : leaveT wd M K id = (x, M', K')) : ROk M' K' ∧ K'.length ≤ K.length := by
  have h1 := leaveT_id (wd := wd) (K := K) (id := id) h.id
  rw [e] at h1; exact ⟨⟨(h.s.leave e).1, h1⟩, (h.s.leave e).2⟩
theorem ROk.ask (h : ROk M K) (hb : K.length < 100000) (e : askT wd M K id key = ((x, y), M', K')) : ROk M' K' ∧ K'.length ≤ K.length + 1 := by
  have h1 := askT_id (wd := wd) (K := K) (id := id) (key := key) h.id
  rw [e] at h1; exact ⟨⟨(h.s.ask hb e).1, h1⟩, (h.s.ask hb e).2⟩
theorem mem_rjoin (h : Mem w0 D0 w (l ++ RefA p wd M K :: r)) (ok : ROk M K) (e : joinT M id stamp = (x, M')) :
    Calls Try.prog 20 #[.pointer (some ⟨p, 0, none⟩), .int .i64 id, .int .i64 stamp] w fun e w' => e = .returned (.int .i64 x) ∧ Mem w0 D0 w' (l ++ RefA p wd M' K :: r) :=
  rpost_at l h fun D hA => by have := rf_join p wd M K id stamp ok.s.ok w D hA; rw [e] at this; exact this
theorem mem_rleave (h : Mem w0 D0 w (l ++ RefA p wd M K :: r)) (ok : ROk M K) (e : leaveT wd M K id = (x, M', K')) :
    Calls Try.prog 21 #[.pointer (some ⟨p, 0, none⟩), .int .i64 id] w fun e w' => e = .returned (.int .i64 x) ∧ Mem w0 D0 w' (l ++ RefA p wd M' K' :: r) :=
  rpost_at l h fun D hA => by have := rf_leave p wd M K id ok.s.ok ok.id w D hA; rw [e] at this; exact this
theorem mem_rask (h : Mem w0 D0 w (l ++ RefA p wd M K :: r)) (ok : ROk M K) (e : askT wd M K id key = ((x, y), M', K')) :
    Calls Try.prog 22 #[.pointer (some ⟨p, 0, none⟩), .int .i64 id, .string key] w fun e w' => e = two x y ∧ Mem w0 D0 w' (l ++ RefA p wd M' K' :: r) :=
  rpost_at l h fun D hA => by have := rf_ask p wd M K id key ok.s.ok ok.s.hold ok.id w D hA; rw [e] at this; exact this
theorem mem_waits (h : Mem w0 D0 w (l ++ TbA p wd M K :: r)) (ok : ROk M K) (id : Int) :
    Calls Try.prog 30 #[.pointer (some ⟨p, 0, none⟩), .int .i64 id] w fun e w' => e = .returned (.tuple #[.string (waitsM M id).1, .bool (waitsM M id).2]) ∧ Mem w0 D0 w' (l ++ TbA p wd M K :: r) := by
  obtain ⟨D, la, lc, ka, kc, rfl, ht⟩ := Mem.get l h
  exact (tb_waits p wd la lc M ka kc K id w ht ok.s.ok.sm ok.s.ok.fm).mono fun e w' ⟨he, hb⟩ => ⟨he, h.below hb⟩
end
theorem ref_start (wd : Bool) (w : World) : RefA w.heap.size wd [] [] (w.alloc (.cells #[.bool wd, .slice none 0 0, .slice none 0 0] 53)) [w.heap.size] :=
  ⟨none, 0, none, 0, [w.heap.size], [], rfl, by simp, ⟨rfl, heap_new w _⟩, [], [], rfl, by simp, ⟨rfl, Row.nil _ _ _⟩, [], [], rfl, by simp, ⟨rfl, Row.nil _ _ _⟩, rfl⟩
/-- a member waits: for what the table says. -/
theorem waitsM_at {M : List Mb} (hs : SortM M) (hk : ∀ m ∈ M, m.waits = false → m.key = ⟨#[]⟩) {k : Nat} (h : k < M.length) : waitsM M M[k].id = (M[k].key, M[k].waits) := by
  have hh : hasM M M[k].id = true := List.any_eq_true.2 ⟨_, List.getElem_mem h, by simp⟩
  obtain ⟨hl, he⟩ := (hasM_iff hs M[k].id).1 hh
  have e : M[posM M M[k].id] = M[k] := sortM_id hs (List.getElem_mem hl) (List.getElem_mem h) he
  unfold waitsM
  rw [List.getElem?_eq_getElem hl, e]
  simp only [hh, Bool.true_and]
  by_cases hw : M[k].waits = true
  · rw [if_pos hw, hw]
  · rw [if_neg hw]
    have hw : M[k].waits = false := by simpa using hw
    rw [hk _ (List.getElem_mem h) hw, hw]; rfl
end Go.Proofs.Ytlmfpkfgjfdhgaa
/- Who waits for nothing has no key; both tables beside each other. -/
namespace Go.Proofs.Ytlmfpkfgjfdhgaa
open Go.RowKit

def KeyOk (M : List Mb) : Prop := ∀ m ∈ M, m.waits = false → m.key = ⟨#[]⟩
theorem mem_modify {α : Type} {f : α → α} {l : List α} {q : Nat} {m : α} (h : m ∈ l.modify q f) : m ∈ l ∨ ∃ x ∈ l, m = f x := by
  obtain ⟨j, hj, rfl⟩ := List.getElem_of_mem h
  rw [List.length_modify] at hj
  rw [List.getElem_modify]
  split
  · exact .inr ⟨_, List.getElem_mem hj, rfl⟩
  · exact .inl (List.getElem_mem hj)
theorem KeyOk.rest {M : List Mb} (h : KeyOk M) (id : Int) : KeyOk (restM M id) := fun m hm hw => by
  unfold restM at hm
  rcases mem_modify hm with h1 | ⟨x, _, rfl⟩
  · exact h m h1 hw
  · rfl
theorem KeyOk.wait {M : List Mb} (h : KeyOk M) (id : Int) (key : ByteArray) : KeyOk (waitT M id key) := fun m hm hw => by
  unfold waitT at hm
  rcases mem_modify hm with h1 | ⟨x, _, rfl⟩
  · exact h m h1 hw
  · cases hw
theorem KeyOk.give {wd : Bool} {M : List Mb} {K : List Lk} (h : KeyOk M) (key : ByteArray) : KeyOk (giveT wd M K key).1 := by
  unfold giveT
  split
  · exact h
  · exact h.rest _
theorem KeyOk.gives {wd : Bool} : ∀ (ks : List ByteArray) (s : List Mb × List Lk), KeyOk s.1 → KeyOk (gives wd s ks).1
  | [], _, h => h
  | k :: r, s, h => KeyOk.gives r (giveT wd s.1 s.2 k) (h.give k)
theorem KeyOk.loses {wd : Bool} {M : List Mb} {K : List Lk} (h : KeyOk M) (id : Int) : KeyOk (losesT wd M K id).1 := KeyOk.gives _ (restM M id, K) (h.rest id)
theorem KeyOk.joinT {M : List Mb} (h : KeyOk M) (id st : Int) : KeyOk (joinT M id st).2 := by
  unfold Go.Proofs.Ytlmfpkfgjfdhgaa.joinT
  repeat' split
  all_goals first | exact h | skip
  intro m hm hw
  rcases mem_insAt.1 hm with rfl | hm
  · rfl
  · exact h m hm hw
theorem KeyOk.leaveT {wd : Bool} {M : List Mb} {K : List Lk} (h : KeyOk M) (id : Int) : KeyOk (leaveT wd M K id).2.1 := by
  unfold Go.Proofs.Ytlmfpkfgjfdhgaa.leaveT
  split
  · exact fun m hm => h.loses id m (List.mem_of_mem_eraseIdx hm)
  · exact h
theorem KeyOk.askT {wd : Bool} {M : List Mb} {K : List Lk} (h : KeyOk M) (id : Int) (key : ByteArray) : KeyOk (askT wd M K id key).2.1 := by
  have hw := h.wait id key
  unfold Go.Proofs.Ytlmfpkfgjfdhgaa.askT
  repeat' split
  all_goals first | exact h | exact hw | exact h.loses _ | exact hw.loses _
/-- what holds of both tables at a round's head. -/
structure PInv (wd : Bool) (k : Nat) (M : List Mb) (K : List Lk) : Prop where
  c : CInv wd M K
  len : K.length ≤ k
  key : KeyOk M
theorem PInv.r {wd : Bool} {k : Nat} {M : List Mb} {K : List Lk} (h : PInv wd k M K) : ROk M K := ⟨h.c.sok, fun m hm => (h.c.rng m hm).1⟩
section
variable {wd : Bool} {k : Nat} {M M' : List Mb} {K K' : List Lk} {id stamp x y : Int} {key : ByteArray}
theorem PInv.start : PInv wd 0 [] [] := ⟨CInv.start wd, Nat.le_refl _, fun _ h => by cases h⟩
theorem PInv.join (h : PInv wd k M K) (e : joinT M id stamp = (x, M')) : PInv wd (k + 1) M' K := by
  have h1 := h.key.joinT id stamp
  rw [e] at h1; exact ⟨(h.c.join e).1, by have := h.len; omega, h1⟩
theorem PInv.leave (h : PInv wd k M K) (e : leaveT wd M K id = (x, M', K')) : PInv wd (k + 1) M' K' := by
  have h1 := h.key.leaveT (wd := wd) (K := K) id
  rw [e] at h1; exact ⟨(h.c.leave e).1, by have := h.len; have := (h.c.sok.leave e).2; omega, h1⟩
theorem PInv.ask (h : PInv wd k M K) (hk : k ≤ 1000) (e : askT wd M K id key = ((x, y), M', K')) : PInv wd (k + 1) M' K' := by
  have h1 := h.key.askT (wd := wd) (K := K) id key
  have hb : K.length < 100000 := by have := h.len; omega
  rw [e] at h1; exact ⟨(h.c.ask hb e).1, by have := h.len; have := (h.c.sok.ask hb e).2; omega, h1⟩
theorem PInv.held (h : PInv wd k M K) {m : Mb} (hm : m ∈ M) (hw : m.waits = true) : hasK K m.key = true := by
  rcases h.c.wt m hm hw with h1 | ⟨l, hl, e, _⟩
  · cases h1
  · exact List.any_eq_true.2 ⟨l, hl, by simp [e]⟩
end
section
variable {w0 w : World} {D0 : List Nat} {l r : List Asn} [Stables l] [Stables r] {p : Nat} {wd : Bool} {M : List Mb} {K : List Lk}
theorem Mem.openR (l : List Asn) [Stables l] (h : Mem w0 D0 w (l ++ RefA p wd M K :: [])) : ∃ la lc ka kc, Mem w0 D0 w (l ++ [BlockA p #[.bool wd, .slice la M.length lc, .slice ka K.length kc] 53, RowA 61 4 la M.length lc (mbFlat M), RowA 91 2 ka K.length kc (lkFlat K)]) := by
  obtain ⟨D, ⟨la, lc, ka, kc, hA⟩, kk⟩ := Mem.focus l h
  exact ⟨la, lc, ka, kc, kk _ w D hA ⟨Touch.refl _ _, fun _ h => .inl h⟩⟩
theorem Mem.closeR (l : List Asn) [Stables l] {la ka : Option Addr} {lc kc : Nat} (h : Mem w0 D0 w (l ++ [BlockA p #[.bool wd, .slice la M.length lc, .slice ka K.length kc] 53, RowA 61 4 la M.length lc (mbFlat M), RowA 91 2 ka K.length kc (lkFlat K)])) : Mem w0 D0 w (l ++ RefA p wd M K :: []) := by
  obtain ⟨D, hA, hD⟩ := h.out
  obtain ⟨D1, D2, rfl, hd, h1, h2⟩ := all_append l _ hA
  exact ⟨D1 ++ D2, all_mk h1 (all_one ⟨la, lc, ka, kc, h2⟩) hd, hD.touch, hD.fresh⟩
theorem Mem.getR (l : List Asn) [Stables l] {la ka : Option Addr} {lc kc : Nat} (h : Mem w0 D0 w (l ++ [BlockA p #[.bool wd, .slice la M.length lc, .slice ka K.length kc] 53, RowA 61 4 la M.length lc (mbFlat M), RowA 91 2 ka K.length kc (lkFlat K)])) : ∃ D, RefA p wd M K w D := Mem.get (r := []) l (Mem.closeR l h)
theorem act_cells (l : List Asn) {r : List Asn} [Stables l] [Stables r] {g : Nat} {xk xi xs : Int} {xy : ByteArray} (h : Mem w0 D0 w (l ++ BlockA g #[.int .u8 xk, .int .i64 xi, .int .i64 xs, .string xy] 29 :: r)) :
    w.cell? ⟨g, 1, none⟩ = some (.int .i64 xi) ∧ w.cell? ⟨g, 2, none⟩ = some (.int .i64 xs) ∧ w.cell? ⟨g, 3, none⟩ = some (.string xy) :=
  ⟨(Mem.cellAt l h (i := 1) rfl).1, (Mem.cellAt l h (i := 2) rfl).1, (Mem.cellAt l h (i := 3) rfl).1⟩
theorem mb_cells (l : List Asn) {r : List Asn} [Stables l] [Stables r] {g : Nat} {xi xs : Int} {xw : Bool} {xy : ByteArray} (h : Mem w0 D0 w (l ++ BlockA g #[.int .i64 xi, .int .i64 xs, .bool xw, .string xy] 61 :: r)) :
    w.cell? ⟨g, 0, none⟩ = some (.int .i64 xi) ∧ w.cell? ⟨g, 2, none⟩ = some (.bool xw) ∧ w.cell? ⟨g, 3, none⟩ = some (.string xy) :=
  ⟨(Mem.cellAt l h (i := 0) rfl).1, (Mem.cellAt l h (i := 2) rfl).1, (Mem.cellAt l h (i := 3) rfl).1⟩
theorem mb_cells_new (l : List Asn) {r : List Asn} [Stables l] [Stables r] {g : Nat} {xi xs : Int} {xw : Bool} {xy : ByteArray} (o : Obj) (h : Mem w0 D0 w (l ++ BlockA g #[.int .i64 xi, .int .i64 xs, .bool xw, .string xy] 61 :: r)) :
    (w.alloc o).cell? ⟨g, 0, none⟩ = some (.int .i64 xi) ∧ (w.alloc o).cell? ⟨g, 2, none⟩ = some (.bool xw) ∧ (w.alloc o).cell? ⟨g, 3, none⟩ = some (.string xy) := mb_cells l (h.below (bel_new w o))
end
end Go.Proofs.Ytlmfpkfgjfdhgaa
