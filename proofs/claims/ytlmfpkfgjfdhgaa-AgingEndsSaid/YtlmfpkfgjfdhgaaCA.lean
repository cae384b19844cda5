/- AgingEnds: one's turn, piece by piece. -/
import Derived.Test.YtlmfpkfgjfdhgaaBY
namespace Go.Proofs.Ytlmfpkfgjfdhgaa
open Go.RowKit

theorem upd_upd {α : Type} (f : Nat → α) (i : Nat) (u v : α) : upd (upd f i u) i v = upd f i v := by
  funext j; unfold upd; split <;> rfl
theorem upd_same {α : Type} (f : Nat → α) (i : Nat) {v : α} (h : f i = v) : upd f i v = f := by
  funext j; unfold upd; split
  · rename_i e; rw [e, h]
  · rfl
theorem mem_natSet {w0 w : World} {D0 : List Nat} (l : List Asn) {r : List Asn} [Stables l] [Stables r] {g n : Nat} {f : Nat → Nat} (h : Mem w0 D0 w (l ++ RowA 3 1 (some ⟨g, 0, none⟩) n n (natRow n f) :: r)) (j v : Nat) :
    Mem w0 D0 (w.setCell ⟨g, j, none⟩ (.int .i64 (v : Nat))) (l ++ RowA 3 1 (some ⟨g, 0, none⟩) n n (natRow n (upd f j v)) :: r) := by
  obtain ⟨D, ⟨rfl, hr⟩, k⟩ := Mem.focus l h
  refine k [RowA 3 1 (some ⟨g, 0, none⟩) n n (natRow n (upd f j v))] _ (blkOf (some ⟨g, 0, none⟩)) (all_one ⟨rfl, ?_⟩) ⟨Touch.setCell _ _ _ (by simp [blkOf]), fun x hx => .inl hx⟩
  rw [← natRow_set]
  exact Row.setCell hr j _
theorem eatE_zero {s : ES} {i : Nat} (h : s.a i = 0) : eatE s i = 0 := by unfold eatE; split <;> simp_all
theorem eatE_none {s : ES} {i : Nat} (h : (waitsM s.M i).2 = false) (h' : (holdsK s.K i).length = 0) : eatE s i = 0 := by
  unfold eatE; rw [if_pos ⟨h, List.eq_nil_of_length_eq_zero h'⟩]
theorem eatE_some {s : ES} {i : Nat} (h' : (holdsK s.K i).length ≠ 0) : eatE s i = s.a i := by
  unfold eatE; rw [if_neg fun h => h' (by rw [h.2]; rfl)]
theorem goE_leave {wd : Bool} {W : Nat → List ByteArray} {s : ES} {i : Nat} (h : eatE s i = (W i).length) {x : Int} {M' : List Mb} {K' : List Lk} (e : leaveT wd s.M s.K i = (x, M', K')) :
    goE wd W s i = ⟨M', K', upd s.a i (eatE s i), upd s.o i true⟩ := by
  unfold goE; rw [dif_neg (by omega), e]
theorem goE_ask {wd : Bool} {W : Nat → List ByteArray} {s : ES} {i : Nat} (h : eatE s i < (W i).length) {k : ByteArray} (hk : (W i)[eatE s i] = k) {x y : Int} {M' : List Mb} {K' : List Lk} (e : askT wd s.M s.K i k = ((x, y), M', K')) :
    goE wd W s i = ⟨M', K', upd s.a i (if y = 11 then 0 else eatE s i + 1), s.o⟩ := by
  subst hk
  unfold goE; rw [dif_pos h, e]
theorem ask_code {wd : Bool} {M : List Mb} {K : List Lk} {y : Int} {k : ByteArray} (ok : TOk M K) (hI : HoldOk M K) (hz : k.size ≤ 16) (hh : hasM M y = true) (hnw : ∀ k, ¬ WaitsOn M y k) {n e : Int} {M' : List Mb} {K' : List Lk} (ha : askT wd M K y k = ((n, e), M', K')) (hy0 : 0 ≤ y) :
    e = 0 ∨ (e = 10 ∧ n ≠ y) ∨ e = 11 := by
  rcases ask_eff ok hI hz hh hnw ha hy0 with h | h | h | ⟨-, h, -⟩
  · exact .inl h.1
  · exact .inr (.inl ⟨h.1, h.2.1⟩)
  · exact .inr (.inr h.1)
  · exact h.imp id .inl
end Go.Proofs.Ytlmfpkfgjfdhgaa
