/- A driver and a map are made; a driver's results. -/
import Derived.Test.YtmifgnibalbgjaaDoorV
namespace Go.Proofs.YtmifgnibalbgjaaDoor
open Go.RowKit
theorem infoOp : (Tryd.prog.info? 60).map (fun i => (i.zero, i.size, i.bytes)) = some (some (.agg #[.int .i64 0, .string ⟨#[]⟩, .string ⟨#[]⟩, .int .i64 0]), 4, 48) := by kernel_rfl
theorem sizeOp (w : World) : (Go.sizeOf 60).run Tryd.prog w = .ok 4 w := by kernel_rfl
theorem sizeRs (w : World) : (Go.sizeOf 52).run Tryd.prog w = .ok 2 w := by kernel_rfl
/-- a row that a call owns from a block on lies in new blocks. -/
theorem made_of_owns {w w' : World} {E k : Nat} {v : Value} {n : Nat} {xs : List Value} (h : w'.ownsRow w.heap.size E k v n xs) (hb : Below w.heap.size w w') : ∃ a c, v = .slice a n c ∧ Mem w [] w' [RowA E k a n c xs] := by
  obtain ⟨hl, ⟨hv, rfl⟩ | ⟨g, cap, cur, hv, hB, hg, hnc, hcm, hcs, htk⟩⟩ := h
  · exact ⟨none, 0, hv, by
      have : xs = [] := List.eq_nil_of_length_eq_zero (by simpa using hl)
      subst this
      have m := (Mem.nil w).new (w' := w') hb (As := [RowA E k none 0 0 []]) (D' := []) (all_one ⟨rfl, Row.nil _ _ _⟩) (by simp)
      exact m⟩
  · have hr : Row w' E k (some ⟨g, 0, none⟩) n cap xs := Row.mk hg hnc hcm hcs htk
    exact ⟨_, cap, hv, (Mem.nil w).new (w' := w') hb (As := [RowA E k (some ⟨g, 0, none⟩) n cap xs]) (D' := [g]) (all_one ⟨rfl, hr⟩) (by simp; exact hB)⟩
set_option maxHeartbeats 1000000 in
theorem cloneOp_zero (a : Addr) (c : Nat) (w : World) :
    Calls Tryd.prog 26 #[.slice (some a) 0 c] w fun e w' => e = .returned (.slice (some ⟨w.heap.size, 0, none⟩) 0 0) ∧ Mem w [] w' [RowA 60 4 (some ⟨w.heap.size, 0, none⟩) 0 0 []] := by
  have q : ∀ (w : World) (a : Option Addr) (n c n' c' : Nat), (binOp .eql 22 (.slice a n c) (.slice none n' c')).run Tryd.prog w = .ok (.bool a.isNone) w := fun w a n c n' c' => Lib.run_eql_slice_nil w _ _ a n c n' c' Tryd.underlying22
  have HF : Hid (Mem w [] (w.alloc (.cells #[] 60)) [RowA 60 4 (some ⟨w.heap.size, 0, none⟩) 0 0 []]) := Lib.hid ((Mem.nil w).new (bel_new w _) (As := [RowA 60 4 (some ⟨w.heap.size, 0, none⟩) 0 0 []]) (D' := [w.heap.size]) (all_one ⟨rfl, Row.mk (cur := #[]) (heap_new w _) (Nat.le_refl _) (Nat.zero_le _) rfl rfl⟩) (by simp))
  go_enter Tryd.func26, Tryd.ntmps26
  go_wp2_with fail
  go_ret
  exact ⟨rfl, HF.out⟩
set_option maxHeartbeats 1000000 in
theorem cloneRs_zero (a : Addr) (c : Nat) (w : World) :
    Calls Tryd.prog 40 #[.slice (some a) 0 c] w fun e w' => e = .returned (.slice (some ⟨w.heap.size, 0, none⟩) 0 0) ∧ Mem w [] w' [RowA 52 2 (some ⟨w.heap.size, 0, none⟩) 0 0 []] := by
  have q : ∀ (w : World) (a : Option Addr) (n c n' c' : Nat), (binOp .eql 53 (.slice a n c) (.slice none n' c')).run Tryd.prog w = .ok (.bool a.isNone) w := fun w a n c n' c' => Lib.run_eql_slice_nil w _ _ a n c n' c' Tryd.underlying53
  have HF : Hid (Mem w [] (w.alloc (.cells #[] 52)) [RowA 52 2 (some ⟨w.heap.size, 0, none⟩) 0 0 []]) := Lib.hid ((Mem.nil w).new (bel_new w _) (As := [RowA 52 2 (some ⟨w.heap.size, 0, none⟩) 0 0 []]) (D' := [w.heap.size]) (all_one ⟨rfl, Row.mk (cur := #[]) (heap_new w _) (Nat.le_refl _) (Nat.zero_le _) rfl rfl⟩) (by simp))
  go_enter Tryd.func40, Tryd.ntmps40
  go_wp2_with fail
  go_ret
  exact ⟨rfl, HF.out⟩
theorem cloneOp_row (a : Option Addr) (n c : Nat) (l : List Opp) (w : World) (hl : n = l.length) (hn : n ≤ 100000) (hx : ∀ j (hj : j < l.length), ∃ b off, a = some ⟨b, off, none⟩ ∧ w.cell? ⟨b, off + j * 4, none⟩ = some (.int .i64 l[j].kind) ∧ w.cell? ⟨b, off + j * 4 + 1, none⟩ = some (.string l[j].key) ∧ w.cell? ⟨b, off + j * 4 + 2, none⟩ = some (.string l[j].value) ∧ w.cell? ⟨b, off + j * 4 + 3, none⟩ = some (.int .i64 l[j].n)) :
    Calls Tryd.prog 26 #[.slice a n c] w fun e w' => ∃ a' c', e = .returned (.slice a' n c') ∧ Mem w [] w' [RowA 60 4 a' n c' (opFlat l)] := by
  rcases Nat.eq_zero_or_pos n with h0 | h0
  · subst h0
    have : l = [] := List.length_eq_zero_iff.1 hl.symm
    subst this
    cases a with
    | none => exact (Tryd.slices_CloneOp_nil 0 c w).mono fun e w' ⟨he, hw⟩ => ⟨none, 0, he, hw ▸ (Mem.nil w).new (Below.refl _ _) (As := [RowA 60 4 none 0 0 []]) (D' := []) (all_one ⟨rfl, Row.nil _ _ _⟩) (by simp)⟩
    | some a => exact (cloneOp_zero a c w).mono fun e w' ⟨he, hm⟩ => ⟨_, _, he, hm⟩
  · obtain ⟨b, off, rfl, _⟩ := hx 0 (by omega)
    obtain ⟨i0, hi, hz0, hz1, hz2⟩ := info_parts infoOp
    refine (Tryd.slices_CloneOp i0 _ 4 48 hi hz0 hz1 hz2 rfl (by decide) sizeOp b off n c (opFlat l) w (by rw [opFlat_len, hl]) (by unfold maxLen; omega) (by omega) (fun j u hj => ?_) (opFlat_one l)).mono fun e w' ⟨v', he, ho, _, hb⟩ => by
      obtain ⟨a', c', e', hm⟩ := made_of_owns ho hb
      exact ⟨a', c', by rw [he, e'], hm⟩
    have hjl : j < l.length * 4 := by
      have := (List.getElem?_eq_some_iff.1 hj).1
      rw [opFlat_len] at this; exact this
    have hk : j / 4 < l.length := by omega
    obtain ⟨b', off', e, hc⟩ := hx (j / 4) hk
    simp only [Option.some.injEq, Addr.mk.injEq, and_true] at e
    obtain ⟨rfl, rfl⟩ := e
    have hg := opFlat_get l (j / 4) hk
    rcases (show j % 4 = 0 ∨ j % 4 = 1 ∨ j % 4 = 2 ∨ j % 4 = 3 by omega) with h | h | h | h
    · have ej : j = j / 4 * 4 := by omega
      rw [ej, hg.1] at hj
      rw [ej, hc.1]
      exact hj
    · have ej : j = j / 4 * 4 + 1 := by omega
      rw [ej, hg.2.1] at hj
      rw [ej, ← Nat.add_assoc, hc.2.1]
      exact hj
    · have ej : j = j / 4 * 4 + 2 := by omega
      rw [ej, hg.2.2.1] at hj
      rw [ej, ← Nat.add_assoc, hc.2.2.1]
      exact hj
    · have ej : j = j / 4 * 4 + 3 := by omega
      rw [ej, hg.2.2.2] at hj
      rw [ej, ← Nat.add_assoc, hc.2.2.2]
      exact hj
theorem cloneRs_row (a : Option Addr) (n c : Nat) (l : List Rs) (w : World) (hl : n = l.length) (hn : n ≤ 100000) (hx : ∀ j (hj : j < l.length), ∃ b off, a = some ⟨b, off, none⟩ ∧ w.cell? ⟨b, off + j * 2, none⟩ = some (.string l[j].v) ∧ w.cell? ⟨b, off + j * 2 + 1, none⟩ = some (.bool l[j].h)) :
    Calls Tryd.prog 40 #[.slice a n c] w fun e w' => ∃ a' c', e = .returned (.slice a' n c') ∧ Mem w [] w' [RowA 52 2 a' n c' (rsFlat l)] := by
  rcases Nat.eq_zero_or_pos n with h0 | h0
  · subst h0
    have : l = [] := List.length_eq_zero_iff.1 hl.symm
    subst this
    cases a with
    | none => exact (Tryd.slices_CloneRs_nil 0 c w).mono fun e w' ⟨he, hw⟩ => ⟨none, 0, he, hw ▸ (Mem.nil w).new (Below.refl _ _) (As := [RowA 52 2 none 0 0 []]) (D' := []) (all_one ⟨rfl, Row.nil _ _ _⟩) (by simp)⟩
    | some a => exact (cloneRs_zero a c w).mono fun e w' ⟨he, hm⟩ => ⟨_, _, he, hm⟩
  · obtain ⟨b, off, rfl, _⟩ := hx 0 (by omega)
    obtain ⟨i0, hi, hz0, hz1, hz2⟩ := info_parts infoRs
    refine (Tryd.slices_CloneRs i0 _ 2 24 hi hz0 hz1 hz2 rfl (by decide) sizeRs b off n c (rsFlat l) w (by rw [rsFlat_len, hl]) (by unfold maxLen; omega) (by omega) (fun j u hj => ?_) (rsFlat_one l)).mono fun e w' ⟨v', he, ho, _, hb⟩ => by
      obtain ⟨a', c', e', hm⟩ := made_of_owns ho hb
      exact ⟨a', c', by rw [he, e'], hm⟩
    have hjl : j < l.length * 2 := by
      have := (List.getElem?_eq_some_iff.1 hj).1
      rw [rsFlat_len] at this; exact this
    have hk : j / 2 < l.length := by omega
    obtain ⟨b', off', e, hc⟩ := hx (j / 2) hk
    simp only [Option.some.injEq, Addr.mk.injEq, and_true] at e
    obtain ⟨rfl, rfl⟩ := e
    have hg := rsFlat_get l (j / 2) hk
    rcases (show j % 2 = 0 ∨ j % 2 = 1 by omega) with h | h
    · have ej : j = j / 2 * 2 := by omega
      rw [ej, hg.1] at hj
      rw [ej, hc.1]
      exact hj
    · have ej : j = j / 2 * 2 + 1 := by omega
      rw [ej, hg.2] at hj
      rw [ej, ← Nat.add_assoc, hc.2]
      exact hj
theorem cloneOp_any (a : Option Addr) (n c : Nat) (l : List Opp) (w : World) (h : OpsAt w a n l) (hn : n ≤ 1000) :
    Calls Tryd.prog 26 #[.slice a n c] w fun e w' => ∃ a' c', e = .returned (.slice a' n c') ∧ Mem w [] w' [RowA 60 4 a' n c' (opFlat l)] :=
  cloneOp_row a n c l w h.1 (by omega) fun j hj => by
    obtain ⟨b, off, ha, hc, _⟩ := h.at j hj
    exact ⟨b, off, ha, hc⟩
end Go.Proofs.YtmifgnibalbgjaaDoor

