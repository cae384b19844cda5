/- The driver is opened and shut; what is only read of it. -/
import Derived.Test.YtmifgnibalbgjaaDoorG
namespace Go.Proofs.YtmifgnibalbgjaaDoor
open Go.RowKit
section
variable {w0 w : World} {D0 : List Nat} {g mg : Nat} {l : List Opp} {d : Dr} {ss : List ByteArray} {r : List Asn}
/-- things that are one thing, side by side. -/
theorem Mem.flat {w0 w : World} {D0 : List Nat} {L r : List Asn} {A : Asn} (h : Mem w0 D0 w (A :: r)) (hA : ∀ D, A w D → All L w D) : Mem w0 D0 w (L ++ r) := by
  obtain ⟨D, ⟨D1, D2, rfl, hd, h1, h2⟩, hs⟩ := h.out
  exact ⟨D1 ++ D2, all_mk (hA _ h1) h2 hd, hs⟩
theorem Mem.fold {w0 w : World} {D0 : List Nat} {L r : List Asn} {A : Asn} (h : Mem w0 D0 w (L ++ r)) (hA : ∀ D, All L w D → A w D) : Mem w0 D0 w (A :: r) := by
  obtain ⟨D, h1, hs⟩ := h.out
  obtain ⟨D1, D2, rfl, hd, k1, k2⟩ := all_append L r h1
  exact ⟨D1 ++ D2, ⟨D1, D2, rfl, hd, hA _ k1, k2⟩, hs⟩
theorem Mem.openD (h : Mem w0 D0 w (DrA g mg l d :: r)) : ∃ pa pc ra rc tv lv, Mem w0 D0 w (drL g mg l d pa pc ra rc tv lv ++ TlA d.phase tv lv d.tl :: r) := by
  obtain ⟨D, ⟨D1, D2, rfl, hd, ⟨pa, pc, ra, rc, tv, lv, h1⟩, h2⟩, hs⟩ := h.out
  exact ⟨pa, pc, ra, rc, tv, lv, by
    have : Mem w0 D0 w ((drL g mg l d pa pc ra rc tv lv ++ [TlA d.phase tv lv d.tl]) ++ r) := ⟨D1 ++ D2, all_mk h1 h2 hd, hs⟩
    rwa [List.append_assoc] at this⟩
theorem Mem.closeD {pa : Option Addr} {pc : Nat} {ra : Option Addr} {rc : Nat} {tv lv : Value} (h : Mem w0 D0 w (drL g mg l d pa pc ra rc tv lv ++ TlA d.phase tv lv d.tl :: r)) : Mem w0 D0 w (DrA g mg l d :: r) :=
  Mem.fold (L := drL g mg l d pa pc ra rc tv lv ++ [TlA d.phase tv lv d.tl]) (by rw [List.append_assoc]; exact h) fun D hD => ⟨pa, pc, ra, rc, tv, lv, hD⟩
/-- the part in the midst may be another one. -/
theorem Mem.swapIn {w0 w : World} {D0 : List Nat} {L r : List Asn} {A B : Asn} (h : Mem w0 D0 w (L ++ A :: r)) (hA : ∀ D, A w D → B w D) : Mem w0 D0 w (L ++ B :: r) := by
  obtain ⟨D, h1, hs⟩ := h.out
  obtain ⟨D1, D2, rfl, hd, k1, E1, E2, rfl, he, k2, k3⟩ := all_append L (A :: r) h1
  exact ⟨D1 ++ (E1 ++ E2), all_mk k1 ⟨E1, E2, rfl, he, hA _ k2, k3⟩ hd, hs⟩
theorem Mem.exIn {w0 w : World} {D0 : List Nat} {L r : List Asn} {A : Asn} {ι : Type} {B : ι → Asn} (h : Mem w0 D0 w (L ++ A :: r)) (hA : ∀ D, A w D → ∃ i, B i w D) : ∃ i, Mem w0 D0 w (L ++ B i :: r) := by
  obtain ⟨D, h1, hs⟩ := h.out
  obtain ⟨D1, D2, rfl, hd, k1, E1, E2, rfl, he, k2, k3⟩ := all_append L (A :: r) h1
  obtain ⟨i, hi⟩ := hA _ k2
  exact ⟨i, D1 ++ (E1 ++ E2), all_mk k1 ⟨E1, E2, rfl, he, hi, k3⟩ hd, hs⟩
/-- while it works. -/
theorem Mem.openW (h : Mem w0 D0 w (DrA g mg l d :: r)) (hp : d.phase < 7) : ∃ pa pc ra rc ta tc, Mem w0 D0 w (drL g mg l d pa pc ra rc (.slice ta d.tl.length tc) (.slice none 0 0) ++ RowA 3 1 ta d.tl.length tc (intsV d.tl) :: r) := by
  obtain ⟨pa, pc, ra, rc, tv, lv, h1⟩ := Mem.openD h
  obtain ⟨D, h2, hs⟩ := h1.out
  obtain ⟨D1, D2, rfl, hd, k1, E1, E2, rfl, he, k2, k3⟩ := all_append (drL g mg l d pa pc ra rc tv lv) (TlA d.phase tv lv d.tl :: r) h2
  rcases k2 with ⟨_, ta, tc, rfl, rfl, hr⟩ | ⟨hp', _⟩ | ⟨hp', _⟩
  · exact ⟨pa, pc, ra, rc, ta, tc, D1 ++ (E1 ++ E2), all_mk k1 ⟨E1, E2, rfl, he, hr, k3⟩ hd, hs⟩
  · omega
  · omega
theorem Mem.closeW {pa : Option Addr} {pc : Nat} {ra : Option Addr} {rc : Nat} {ta : Option Addr} {tc : Nat} (h : Mem w0 D0 w (drL g mg l d pa pc ra rc (.slice ta d.tl.length tc) (.slice none 0 0) ++ RowA 3 1 ta d.tl.length tc (intsV d.tl) :: r)) (hp : d.phase < 7) : Mem w0 D0 w (DrA g mg l d :: r) :=
  Mem.closeD (Mem.swapIn h fun _D hD => .inl ⟨hp, ta, tc, rfl, rfl, hD⟩)
/-- while it tells of the end. -/
theorem Mem.openF (h : Mem w0 D0 w (DrA g mg l d :: r)) (hp : d.phase = 7) : ∃ pa pc ra rc t0 t1 t2 la lc, Mem w0 D0 w (drL g mg l d pa pc ra rc (.slice t0 t1 t2) (.slice la d.tl.length lc) ++ QRowA 3 la d.tl.length lc (intsV d.tl) :: r) := by
  obtain ⟨pa, pc, ra, rc, tv, lv, h1⟩ := Mem.openD h
  obtain ⟨D, h2, hs⟩ := h1.out
  obtain ⟨D1, D2, rfl, hd, k1, E1, E2, rfl, he, k2, k3⟩ := all_append (drL g mg l d pa pc ra rc tv lv) (TlA d.phase tv lv d.tl :: r) h2
  rcases k2 with ⟨hp', _⟩ | ⟨_, ⟨t0, t1, t2, rfl⟩, la, lc, rfl, hr⟩ | ⟨hp', _⟩
  · omega
  · exact ⟨pa, pc, ra, rc, t0, t1, t2, la, lc, D1 ++ (E1 ++ E2), all_mk k1 ⟨E1, E2, rfl, he, hr, k3⟩ hd, hs⟩
  · omega
theorem Mem.closeF {pa : Option Addr} {pc : Nat} {ra : Option Addr} {rc : Nat} {t0 : Option Addr} {t1 t2 : Nat} {la : Option Addr} {lc : Nat} (h : Mem w0 D0 w (drL g mg l d pa pc ra rc (.slice t0 t1 t2) (.slice la d.tl.length lc) ++ QRowA 3 la d.tl.length lc (intsV d.tl) :: r)) (hp : d.phase = 7) : Mem w0 D0 w (DrA g mg l d :: r) :=
  Mem.closeD (Mem.swapIn h fun _D hD => .inr (.inl ⟨hp, ⟨_, _, _, rfl⟩, la, lc, rfl, hD⟩))
theorem Mem.nilIn {w0 w : World} {D0 : List Nat} {L r : List Asn} (h : Mem w0 D0 w (L ++ r)) : Mem w0 D0 w (L ++ (fun _ D => D = []) :: r) := by
  obtain ⟨D, h1, hs⟩ := h.out
  obtain ⟨D1, D2, rfl, hd, k1, k2⟩ := all_append L r h1
  exact ⟨D1 ++ D2, all_mk k1 ⟨[], D2, rfl, by simp, rfl, k2⟩ hd, hs⟩
theorem Mem.closeO {pa : Option Addr} {pc : Nat} {ra : Option Addr} {rc : Nat} {t0 : Option Addr} {t1 t2 : Nat} {la : Option Addr} {l1 l2 : Nat} (h : Mem w0 D0 w (drL g mg l d pa pc ra rc (.slice t0 t1 t2) (.slice la l1 l2) ++ r)) (hp : 7 < d.phase) : Mem w0 D0 w (DrA g mg l d :: r) :=
  Mem.closeD (Mem.swapIn (Mem.nilIn h) fun _D hD => .inr (.inr ⟨hp, hD, ⟨_, _, _, rfl⟩, _, _, _, rfl⟩))
/-- its block. -/
theorem Mem.drAt (h : Mem w0 D0 w (DrA g mg l d :: r)) : ∃ pa pc ra rc tv lv, w.heap[g]? = some (.cells (drC d mg pa l.length pc ra d.res.length rc tv lv) 69 (0, 0)) := by
  obtain ⟨pa, pc, ra, rc, tv, lv, h1⟩ := Mem.openD h
  obtain ⟨D, ⟨D1, D2, _, _, ⟨_, h2⟩, _⟩, _⟩ := h1.out
  exact ⟨pa, pc, ra, rc, tv, lv, h2⟩
theorem Mem.mapAt {A : Asn} (h : Mem w0 D0 w (A :: MapA mg ss :: r)) : MapAt w mg ss := by
  obtain ⟨D, ⟨D1, D2, _, _, _, E1, E2, _, _, h2, _⟩, _⟩ := h.out
  exact h2.at
end
section
variable {w0 w : World} {D0 : List Nat} {g mg : Nat} {l : List Opp} {d : Dr} {ss : List ByteArray} {r : List Asn}
set_option maxHeartbeats 800000 in
theorem state_any (M : Mem w0 D0 w (DrA g mg l d :: r)) : Calls Tryd.prog 11 #[.pointer (some ⟨g, 0, none⟩)] w fun e w' => e = .returned (.int .i64 (if d.phase = 8 then d.outcome else 1)) ∧ w = w' := by
  obtain ⟨pa, pc, ra, rc, tv, lv, hg⟩ := Mem.drAt M
  obtain ⟨c6, -⟩ := drC_cell hg 6 (.int .i64 d.phase) rfl
  obtain ⟨c15, -⟩ := drC_cell hg 15 (.int .i64 d.outcome) rfl
  clear hg M
  generalize d.phase = ph at *
  generalize d.outcome = oc at *
  by_cases h : ph = 8
  · subst h
    rw [if_pos rfl]
    go_enter Tryd.func11, Tryd.ntmps11
    go_wp2_with fail
    go_ret
    exact ⟨rfl, rfl⟩
  · rw [if_neg h]
    have h1 : (ph == 8) = false := by simpa using h
    have h2 : (ph != 8) = true := by simpa using h
    clear h
    go_enter Tryd.func11, Tryd.ntmps11
    go_wp2_with fail
    go_ret
    exact ⟨rfl, rfl⟩
theorem attempt_any (M : Mem w0 D0 w (DrA g mg l d :: r)) : Calls Tryd.prog 18 #[.pointer (some ⟨g, 0, none⟩)] w fun e w' => e = .returned (.int .i64 d.attempt) ∧ w = w' := by
  obtain ⟨pa, pc, ra, rc, tv, lv, hg⟩ := Mem.drAt M
  obtain ⟨c6, -⟩ := drC_cell hg 5 (.int .i64 d.attempt) rfl
  clear hg M
  go_enter Tryd.func18, Tryd.ntmps18
  go_wp2_with fail
  go_ret
  exact ⟨rfl, rfl⟩
theorem tx_any (M : Mem w0 D0 w (DrA g mg l d :: r)) : Calls Tryd.prog 21 #[.pointer (some ⟨g, 0, none⟩)] w fun e w' => e = .returned (.int .i64 d.tx) ∧ w = w' := by
  obtain ⟨pa, pc, ra, rc, tv, lv, hg⟩ := Mem.drAt M
  obtain ⟨c6, -⟩ := drC_cell hg 0 (.int .i64 d.tx) rfl
  clear hg M
  go_enter Tryd.func21, Tryd.ntmps21
  go_wp2_with fail
  go_ret
  exact ⟨rfl, rfl⟩
theorem stamp_any (M : Mem w0 D0 w (DrA g mg l d :: r)) : Calls Tryd.prog 22 #[.pointer (some ⟨g, 0, none⟩)] w fun e w' => e = .returned (.int .i64 d.stamp) ∧ w = w' := by
  obtain ⟨pa, pc, ra, rc, tv, lv, hg⟩ := Mem.drAt M
  obtain ⟨c6, -⟩ := drC_cell hg 1 (.int .i64 d.stamp) rfl
  clear hg M
  go_enter Tryd.func22, Tryd.ntmps22
  go_wp2_with fail
  go_ret
  exact ⟨rfl, rfl⟩
theorem state_nil (w : World) : Calls Tryd.prog 11 #[.pointer none] w fun e w' => e = .returned (.int .i64 0) ∧ w = w' := by
  go_enter Tryd.func11, Tryd.ntmps11
  go_wp2_with fail
  go_ret
  exact ⟨rfl, rfl⟩
def homeM (ss : List ByteArray) (d : Dr) : Int := d.tx % (ss.length + 1 : Nat)
set_option maxHeartbeats 800000 in
theorem home_any (M : Mem w0 D0 w (DrA g mg l d :: MapA mg ss :: r)) (htx : 0 ≤ d.tx) : Calls Tryd.prog 29 #[.pointer (some ⟨g, 0, none⟩)] w fun e w' => e = .returned (.int .i64 (homeM ss d)) ∧ ∃ k, w' = w.drewN k := by
  have h7 : ss.length ≤ 7 := by obtain ⟨_, _, _, _, _, h⟩ := Mem.mapAt M; exact h
  obtain ⟨pa, pc, ra, rc, tv, lv, hg⟩ := Mem.drAt M
  obtain ⟨c0, -⟩ := drC_cell hg 0 (.int .i64 d.tx) rfl
  obtain ⟨c3, -⟩ := drC_cell hg 3 (.pointer (some ⟨mg, 0, none⟩)) rfl
  have hmt : MapAt w mg ss := Mem.mapAt M
  have HS : Hid (∀ k, Calls Tryd.prog 42 #[.pointer (some ⟨mg, 0, none⟩)] (w.drewN k) fun e w' => e = .returned (.int .i64 (ss.length + 1 : Nat)) ∧ w' = (w.drewN k).drewN 0) := Lib.hid fun k => (shards_any mg ss (w.drewN k) (hmt.keep (Keep.drewN w k))).mono fun e w' hh => ⟨hh.1, hh.2 ▸ rfl⟩
  clear hg M hmt
  unfold homeM
  generalize d.tx = tx at *
  generalize hn : ss.length + 1 = n at *
  have hn1 : 1 ≤ n := by omega
  have hn8 : n ≤ 8 := by omega
  clear hn h7
  go_enter Tryd.func29, Tryd.ntmps29
  go_wp2_with fail
  go_quiet ((go_at_call 42; exact Calls.quiet_of_same (HS.out _)))
  go_wp2_with fail
  trace_state
  go_ret
  exact ⟨rfl, _, rfl⟩
end
end Go.Proofs.YtmifgnibalbgjaaDoor
