/- AgingEnds: whose end is nearer (of no program). -/
import Derived.Test.YtlmfpkfgjfdhgaaBR
namespace Go.Proofs.Ytlmfpkfgjfdhgaa
open Go.RowKit

def olderS (st : Nat → Int) (i j : Nat) : Prop := st i < st j ∨ (st i = st j ∧ i < j)
/-- ranks by age. -/
structure Rk (n : Nat) (st : Nat → Int) (r : Nat → Nat) : Prop where
  lt : ∀ i < n, ∀ j < n, olderS st i j → r j < r i
  top : ∀ i < n, r i ≤ 4
def remE (W : Nat → List ByteArray) (s : ES) (x : Nat) : Nat := (W x).length + 1 - eatE s x
/-- x's chain of waits ends at m, and is worth d. -/
inductive Ch (W : Nat → List ByteArray) (r : Nat → Nat) (s : ES) : Nat → Nat → Nat → Prop
  | act {x : Nat} (h : ∀ k, ¬ WaitsOn s.M x k) : Ch W r s x x (remE W s x * 6 ^ r x)
  | wait {x h m d : Nat} {k : ByteArray} (hw : WaitsOn s.M x k) (hk : (⟨k, (h : Int)⟩ : Lk) ∈ s.K) (hc : Ch W r s h m d) : Ch W r s x m (remE W s x * 6 ^ r x + (d + 6 ^ r x - 6 ^ (r h + 1)))
section
variable {n : Nat} {W : Nat → List ByteArray} {st : Nat → Int} {KS : List ByteArray} {r : Nat → Nat} {s s' : ES} {x y m d : Nat}
theorem eat_waits (hs : SortM s.M) {k : ByteArray} (h : WaitsOn s.M x k) : eatE s x = s.a x := by
  unfold eatE
  rw [if_neg]
  rw [(waitsM_iff hs _).2 ⟨k, h⟩]
  simp
theorem rem_pos {wd : Bool} (h : EI wd n W st KS s) (hx : x < n) : 1 ≤ remE W s x := by
  have := h.eat_le hx
  unfold remE; omega
theorem rem_le (h4 : (W x).length ≤ 4) : remE W s x ≤ 5 := by unfold remE; omega
theorem rem_waits {wd : Bool} (h : EI wd n W st KS s) (h4 : (W x).length ≤ 4) (hx : x < n) {k : ByteArray} (hw : WaitsOn s.M x k) : remE W s x ≤ 4 := by
  have := h.wt x hx k hw
  unfold remE
  rw [eat_waits h.c.sok.ok.sm hw]; omega
/-- the holder for whom x waits. -/
theorem EI.chain (h : EI false n W st KS s) (hr : Rk n st r) {k : ByteArray} {hd : Nat} (hw : WaitsOn s.M x k) (hk : (⟨k, (hd : Int)⟩ : Lk) ∈ s.K) : hd < n ∧ s.o hd = false ∧ x < n ∧ s.o x = false ∧ r hd < r x := by
  obtain ⟨h2, a1, a2, a3, a4, a5, a6⟩ := h.waits hw
  have e : (hd : Int) = (h2 : Int) := holder_uniq h.c.sok.ok.sk hk a2
  obtain rfl : hd = h2 := by omega
  exact ⟨a1, a3, a5, a4, hr.lt x a5 hd a1 (by simpa [olderS] using a6)⟩
theorem pow_step {a b : Nat} (h : a < b) : 6 * 6 ^ a ≤ 6 ^ b := by
  rw [Nat.mul_comm, ← Nat.pow_succ]; exact Nat.pow_le_pow_right (by omega) h
theorem Ch.ok (h : EI false n W st KS s) (hr : Rk n st r) (h4 : ∀ i < n, (W i).length ≤ 4) (hc : Ch W r s x m d) : x < n → s.o x = false → 1 ≤ d ∧ d ≤ 5 * 6 ^ r x ∧ m < n ∧ s.o m = false ∧ ∀ k, ¬ WaitsOn s.M m k := by
  induction hc with
  | @act x hn =>
    intro hx ho
    have h1 := rem_pos h hx
    have h2 := rem_le (s := s) (h4 x hx)
    have h3 : 1 ≤ 6 ^ r x := Nat.one_le_pow _ _ (by omega)
    have h5 := Nat.mul_le_mul_right (6 ^ r x) h2
    have h6 := Nat.mul_le_mul h1 h3
    exact ⟨by omega, h5, hx, ho, hn⟩
  | @wait x hd m d k hw hk hc ih =>
    intro hx ho
    obtain ⟨a1, a2, -, -, a3⟩ := h.chain hr hw hk
    obtain ⟨b1, b2, b3, b4, b5⟩ := ih a1 a2
    have h1 := rem_pos h hx
    have h2 := rem_waits h (h4 x hx) hx hw
    have h3 := pow_step a3
    have h5 := Nat.mul_le_mul_right (6 ^ r x) h2
    have h7 : 1 ≤ 6 ^ r x := Nat.one_le_pow _ _ (by omega)
    have h6 := Nat.mul_le_mul h1 h7
    rw [Nat.pow_succ, Nat.mul_comm (6 ^ r hd) 6]
    exact ⟨by omega, by omega, b3, b4, b5⟩
theorem Ch.ex (h : EI false n W st KS s) (hr : Rk n st r) : ∀ (q x : Nat), r x ≤ q → x < n → s.o x = false → ∃ m d, Ch W r s x m d
  | q, x, hq, hx, ho => by
    by_cases hw : ∃ k, WaitsOn s.M x k
    · obtain ⟨k, hw⟩ := hw
      obtain ⟨hd, a1, a2, a3, a4, a5, a6⟩ := h.waits hw
      have hlt := hr.lt x hx hd a1 (by simpa [olderS] using a6)
      cases q with
      | zero => omega
      | succ q =>
        obtain ⟨m, d, hc⟩ := Ch.ex h hr q hd (by omega) a1 a3
        exact ⟨m, _, .wait hw a2 hc⟩
    · exact ⟨x, _, .act fun k hk => hw ⟨k, hk⟩⟩
/-- what a turn leaves of who isn't its turn's. -/
structure Frame (y : Nat) (x : Nat) (s s' : ES) : Prop where
  les : ∀ k, WaitsOn s'.M x k → WaitsOn s.M x k
  kept : ∀ k, (⟨k, (x : Int)⟩ : Lk) ∈ s.K → (⟨k, (x : Int)⟩ : Lk) ∈ s'.K
  new : (∀ k, ¬ WaitsOn s.M x k) → ∀ k, (⟨k, (x : Int)⟩ : Lk) ∈ s'.K → (⟨k, (x : Int)⟩ : Lk) ∈ s.K
  a : s'.a x = s.a x
  o : s'.o x = s.o x
theorem holdsK_nil {K : List Lk} {id : Int} : holdsK K id = [] ↔ ∀ k, (⟨k, id⟩ : Lk) ∉ K := by
  rw [List.eq_nil_iff_forall_not_mem]
  exact ⟨fun h k hk => h k (mem_holdsK.2 hk), fun h k hk => h k (mem_holdsK.1 hk)⟩
theorem Frame.eat_act (hs : SortM s.M) (hs' : SortM s'.M) (f : Frame y x s s') (h : ∀ k, ¬ WaitsOn s.M x k) : eatE s' x = eatE s x := by
  have h' : ∀ k, ¬ WaitsOn s'.M x k := fun k hk => h k (f.les k hk)
  unfold eatE
  rw [(waitsM_not hs _).2 h, (waitsM_not hs' _).2 h', f.a]
  have : (holdsK s'.K x = []) ↔ (holdsK s.K x = []) := by
    rw [holdsK_nil, holdsK_nil]
    exact ⟨fun g k hk => g k (f.kept k hk), fun g k hk => g k (f.new h k hk)⟩
  simp only [true_and]
  by_cases e : holdsK s.K x = []
  · rw [if_pos e, if_pos (this.2 e)]
  · rw [if_neg e, if_neg (fun e' => e (this.1 e'))]
theorem Frame.rem_wait (hs : SortM s.M) (hs' : SortM s'.M) (f : Frame y x s s') {k k' : ByteArray} (h : WaitsOn s.M x k) (h' : WaitsOn s'.M x k') : remE W s' x = remE W s x := by
  unfold remE
  rw [eat_waits hs h, eat_waits hs' h', f.a]
end
end Go.Proofs.Ytlmfpkfgjfdhgaa
