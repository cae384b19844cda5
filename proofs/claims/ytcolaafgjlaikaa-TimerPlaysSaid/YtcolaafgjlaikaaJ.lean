/- Cancel, Crash, Clock, Next, Set on a board. -/
import Derived.Test.YtcolaafgjlaikaaI
namespace Go.Proofs.Ytcolaafgjlaikaa
open Go.RowKit

theorem Bd.cellP {w : World} {p N : Nat} {ns : List Nd} (h : Bd w p N ns) : w.cell? ⟨p, 0, none⟩ = some (.slice (some ⟨N, 0, none⟩) ns.length ns.length) := (cell_of_heap h.hp rfl).1
theorem Bd.cellC {w : World} {p N : Nat} {ns : List Nd} (h : Bd w p N ns) (i : Nat) (hi : i < ns.length) : w.cell? ⟨N, i * 2, none⟩ = some (.int .i64 ns[i].clk) ∧ w.frozen? ⟨N, i * 2, none⟩ = false :=
  cell_of_heap h.hN (by rw [List.getElem?_toArray]; exact (ncells_get ns i hi).1)
theorem Bd.cellL {w : World} {p N : Nat} {ns : List Nd} (h : Bd w p N ns) (i : Nat) (hi : i < ns.length) : w.cell? ⟨N, i * 2 + 1, none⟩ = some (.slice ns[i].a ns[i].l.length ns[i].c) ∧ w.frozen? ⟨N, i * 2 + 1, none⟩ = false :=
  cell_of_heap h.hN (by rw [List.getElem?_toArray]; exact (ncells_get ns i hi).2)

def cancelE (id : Int) (l : List Tm) : Int := if (keepT id l).length < l.length then 0 else 6
theorem cancelE_cases (id : Int) (l : List Tm) : (decide ((keepT id l).length < l.length) = true ∧ cancelE id l = 0) ∨ (decide ((keepT id l).length < l.length) = false ∧ cancelE id l = 6) := by
  unfold cancelE
  by_cases h : (keepT id l).length < l.length
  · exact .inl ⟨decide_eq_true h, if_pos h⟩
  · exact .inr ⟨decide_eq_false h, if_neg h⟩

set_option maxHeartbeats 800000 in
theorem pt_cancel_out (p N : Nat) (ns : List Nd) (i id : Int) (hi : i < 0 ∨ (ns.length : Int) ≤ i) (w : World) (h : Bd w p N ns) :
    Calls Try.prog 10 #[.pointer (some ⟨p, 0, none⟩), .int .i64 i, .int .i64 id] w fun e w' => e = .returned (.int .i64 6) ∧ w = w' := by
  have HF := Lib.hid (pt_find_out p N ns.length i w h.cellP hi)
  clear h hi
  go_enter Try.func10, Try.ntmps10
  go_wp2_with fail
  refine HF.out.mono ?_
  rintro e w1 ⟨rfl, rfl⟩
  go_wp2_with fail
  go_ret
  exact ⟨rfl, rfl⟩

set_option maxHeartbeats 800000 in
theorem pt_cancel (p N : Nat) (ns : List Nd) (i : Nat) (hi : i < ns.length) (id : Int) (w : World) (h : Bd w p N ns) (hbig : ns[i].l.length ≤ 1000) :
    Calls Try.prog 10 #[.pointer (some ⟨p, 0, none⟩), .int .i64 i, .int .i64 id] w
      (BPost w p N ns (.returned (.int .i64 (cancelE id ns[i].l))) ((viewB ns).set i (ns[i].clk, keepT id ns[i].l))) := by
  have HF := Lib.hid (pt_find p N ns.length i w h.cellP hi)
  have HD := Lib.hid (pt_dropB p N ns i hi id w h hbig)
  have hcs := cancelE_cases id ns[i].l
  clear h hbig
  generalize decide ((keepT id ns[i].l).length < ns[i].l.length) = q at *
  generalize cancelE id ns[i].l = z at *
  generalize (viewB ns).set i (ns[i].clk, keepT id ns[i].l) = m' at *
  generalize hR : BPost w p N ns (.returned (.int .i64 z)) m' = R
  have HR := Lib.hid hR
  clear hR
  go_enter Try.func10, Try.ntmps10
  go_wp2_with fail
  refine HF.out.mono ?_
  rintro e w1 ⟨rfl, rfl⟩
  go_wp2_with fail
  refine HD.out.mono ?_
  rintro e w2 ⟨rfl, hb⟩
  have HB := Lib.hid hb
  clear hb
  rcases hcs with ⟨rfl, rfl⟩ | ⟨rfl, rfl⟩
  · go_wp2_with fail
    rw [← HR.out]
    exact ⟨rfl, HB.out⟩
  · go_wp2_with fail
    rw [← HR.out]
    exact ⟨rfl, HB.out⟩

set_option maxHeartbeats 800000 in
theorem pt_clock (p N : Nat) (ns : List Nd) (i : Nat) (hi : i < ns.length) (w : World) (h : Bd w p N ns) :
    Calls Try.prog 22 #[.pointer (some ⟨p, 0, none⟩), .int .i64 i] w fun e w' => e = .returned (.int .i64 ns[i].clk) ∧ w = w' := by
  have HF := Lib.hid (pt_find p N ns.length i w h.cellP hi)
  obtain ⟨hc, _⟩ := h.cellC i hi
  clear h
  generalize ns[i].clk = k at *
  go_enter Try.func22, Try.ntmps22
  go_wp2_with fail
  refine HF.out.mono ?_
  rintro e w1 ⟨rfl, rfl⟩
  go_wp2_with fail
  go_ret
  exact ⟨rfl, rfl⟩

end Go.Proofs.Ytcolaafgjlaikaa
