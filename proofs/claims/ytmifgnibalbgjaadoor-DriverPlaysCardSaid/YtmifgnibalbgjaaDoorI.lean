/- What the driver asks for: a command; an access. -/
import Derived.Test.YtmifgnibalbgjaaDoorH
namespace Go.Proofs.YtmifgnibalbgjaaDoor
open Go.RowKit
def e0 : ByteArray := ⟨#[]⟩
def cmd0 (d : Dr) (k : Int) : Cmd := ⟨k, d.tx, d.attempt, 0, 0, ⟨#[]⟩, ⟨#[]⟩, 0, false⟩
section
variable {w0 w : World} {D0 : List Nat} {g mg : Nat} {l : List Opp} {d : Dr} {ss : List ByteArray} {r : List Asn}
set_option maxHeartbeats 1600000 in
theorem command_any (k : Int) (M : Mem w0 D0 w (DrA g mg l d :: r)) : Calls Tryd.prog 28 #[.pointer (some ⟨g, 0, none⟩), .int .i64 k] w fun e w' => e = .returned (Cmd.val (cmd0 d k)) ∧ Below w.heap.size w w' := by
  obtain ⟨pa, pc, ra, rc, tv, lv, hg⟩ := Mem.drAt M
  obtain ⟨c0, -⟩ := drC_cell hg 0 (.int .i64 d.tx) rfl
  obtain ⟨c5, -⟩ := drC_cell hg 5 (.int .i64 d.attempt) rfl
  clear hg M
  unfold Cmd.val cmd0
  simp only
  have hlt := World.block_lt_of_cell? w _ c0
  simp only at hlt
  have HB := Lib.hid (Below.refl w.heap.size w)
  go_enter Tryd.func28, Tryd.ntmps28
  go_wp2_with fail
  go_region
  all_goals
    go_wp2_with fail
    exact bodyPost_ret (v := .agg #[.int .i64 k, .int .i64 d.tx, .int .i64 d.attempt, .int .i64 0, .int .i64 0, .string ⟨#[]⟩, .string ⟨#[]⟩, .int .i64 0, .bool false]) (by simp [results, Tryd.results28, go_sem]) rfl
      ⟨rfl, by repeat (first | exact HB.out | refine Below.setCell ?_ (by simp) _ | refine below_drew ?_ | refine Below.alloc ?_ (by simp) _)⟩
end
/-- a command is stored. -/
theorem Mem.set9 {w0 w : World} {D0 : List Nat} (L : List Asn) {x : Nat} {T : TypeId} {r : List Asn} [Stables L] [Stables r] {a0 a1 a2 a3 a4 a5 a6 a7 a8 : Value} (h : Mem w0 D0 w (L ++ BlockA x #[a0, a1, a2, a3, a4, a5, a6, a7, a8] T :: r)) (v0 v1 v2 v3 v4 v5 v6 v7 v8 : Value) :
    Mem w0 D0 (((((((((w.setCell ⟨x, 0, none⟩ v0).setCell ⟨x, 1, none⟩ v1).setCell ⟨x, 2, none⟩ v2).setCell ⟨x, 3, none⟩ v3).setCell ⟨x, 4, none⟩ v4).setCell ⟨x, 5, none⟩ v5).setCell ⟨x, 6, none⟩ v6).setCell ⟨x, 7, none⟩ v7).setCell ⟨x, 8, none⟩ v8) (L ++ BlockA x #[v0, v1, v2, v3, v4, v5, v6, v7, v8] T :: r) := by
  have h0 : Mem w0 D0 (w.setCell ⟨x, 0, none⟩ v0) (L ++ BlockA x #[v0, a1, a2, a3, a4, a5, a6, a7, a8] T :: r) := Mem.setAt L (i := 0) h v0
  have h1 : Mem w0 D0 ((w.setCell ⟨x, 0, none⟩ v0).setCell ⟨x, 1, none⟩ v1) (L ++ BlockA x #[v0, v1, a2, a3, a4, a5, a6, a7, a8] T :: r) := Mem.setAt L (i := 1) h0 v1
  have h2 : Mem w0 D0 (((w.setCell ⟨x, 0, none⟩ v0).setCell ⟨x, 1, none⟩ v1).setCell ⟨x, 2, none⟩ v2) (L ++ BlockA x #[v0, v1, v2, a3, a4, a5, a6, a7, a8] T :: r) := Mem.setAt L (i := 2) h1 v2
  have h3 : Mem w0 D0 ((((w.setCell ⟨x, 0, none⟩ v0).setCell ⟨x, 1, none⟩ v1).setCell ⟨x, 2, none⟩ v2).setCell ⟨x, 3, none⟩ v3) (L ++ BlockA x #[v0, v1, v2, v3, a4, a5, a6, a7, a8] T :: r) := Mem.setAt L (i := 3) h2 v3
  have h4 : Mem w0 D0 (((((w.setCell ⟨x, 0, none⟩ v0).setCell ⟨x, 1, none⟩ v1).setCell ⟨x, 2, none⟩ v2).setCell ⟨x, 3, none⟩ v3).setCell ⟨x, 4, none⟩ v4) (L ++ BlockA x #[v0, v1, v2, v3, v4, a5, a6, a7, a8] T :: r) := Mem.setAt L (i := 4) h3 v4
  have h5 : Mem w0 D0 ((((((w.setCell ⟨x, 0, none⟩ v0).setCell ⟨x, 1, none⟩ v1).setCell ⟨x, 2, none⟩ v2).setCell ⟨x, 3, none⟩ v3).setCell ⟨x, 4, none⟩ v4).setCell ⟨x, 5, none⟩ v5) (L ++ BlockA x #[v0, v1, v2, v3, v4, v5, a6, a7, a8] T :: r) := Mem.setAt L (i := 5) h4 v5
  have h6 : Mem w0 D0 (((((((w.setCell ⟨x, 0, none⟩ v0).setCell ⟨x, 1, none⟩ v1).setCell ⟨x, 2, none⟩ v2).setCell ⟨x, 3, none⟩ v3).setCell ⟨x, 4, none⟩ v4).setCell ⟨x, 5, none⟩ v5).setCell ⟨x, 6, none⟩ v6) (L ++ BlockA x #[v0, v1, v2, v3, v4, v5, v6, a7, a8] T :: r) := Mem.setAt L (i := 6) h5 v6
  have h7 : Mem w0 D0 ((((((((w.setCell ⟨x, 0, none⟩ v0).setCell ⟨x, 1, none⟩ v1).setCell ⟨x, 2, none⟩ v2).setCell ⟨x, 3, none⟩ v3).setCell ⟨x, 4, none⟩ v4).setCell ⟨x, 5, none⟩ v5).setCell ⟨x, 6, none⟩ v6).setCell ⟨x, 7, none⟩ v7) (L ++ BlockA x #[v0, v1, v2, v3, v4, v5, v6, v7, a8] T :: r) := Mem.setAt L (i := 7) h6 v7
  have h8 : Mem w0 D0 (((((((((w.setCell ⟨x, 0, none⟩ v0).setCell ⟨x, 1, none⟩ v1).setCell ⟨x, 2, none⟩ v2).setCell ⟨x, 3, none⟩ v3).setCell ⟨x, 4, none⟩ v4).setCell ⟨x, 5, none⟩ v5).setCell ⟨x, 6, none⟩ v6).setCell ⟨x, 7, none⟩ v7).setCell ⟨x, 8, none⟩ v8) (L ++ BlockA x #[v0, v1, v2, v3, v4, v5, v6, v7, v8] T :: r) := Mem.setAt L (i := 8) h7 v8
  exact h8
end Go.Proofs.YtmifgnibalbgjaaDoor

