/- The sorted list; put and drop on a board. -/
import Derived.Test.YtcolaafgjlaikaaG
namespace Go.Proofs.Ytcolaafgjlaikaa
open Go.RowKit

def ltT (x y : Tm) : Prop := x.due < y.due ∨ (x.due = y.due ∧ x.id < y.id)
theorem cmpT_neg (x y : Tm) : cmpT x y < 0 ↔ ltT x y := by
  unfold cmpT orI cmpI ltT
  by_cases h1 : x.due < y.due
  · simp [h1]
  · by_cases h2 : y.due < x.due
    · have : ¬ x.due = y.due := by omega
      simp [h1, h2, this]
    · have h3 : x.due = y.due := by omega
      by_cases h4 : x.id < y.id
      · simp [h3, h4]
      · by_cases h5 : y.id < x.id <;> simp [h3, h4, h5]
theorem ltT_trans {x y z : Tm} (h : ltT x y) (k : ltT y z) : ltT x z := by unfold ltT at *; omega
theorem ltT_asymm {x y : Tm} (h : ltT x y) : ¬ ltT y x := by unfold ltT at *; omega
theorem ltT_total {x y : Tm} (h : x.id ≠ y.id) : ltT x y ∨ ltT y x := by unfold ltT; omega

abbrev SortedT (l : List Tm) : Prop := l.Pairwise ltT

def insT : List Tm → Tm → List Tm
  | [], t => [t]
  | x :: r, t => if cmpT x t < 0 then x :: insT r t else t :: x :: r
def posT : List Tm → Tm → Nat
  | [], _ => 0
  | x :: r, t => if cmpT x t < 0 then posT r t + 1 else 0
theorem insT_eq : ∀ (l : List Tm) (t : Tm), l.take (posT l t) ++ t :: l.drop (posT l t) = insT l t
  | [], _ => rfl
  | x :: r, t => by
    unfold posT insT
    split
    · simp [insT_eq r t]
    · simp
theorem insT_len (l : List Tm) (t : Tm) : (insT l t).length = l.length + 1 := by
  induction l with
  | nil => rfl
  | cons x r ih => unfold insT; split <;> simp [ih]
theorem mem_insT {l : List Tm} {t x : Tm} : x ∈ insT l t ↔ x = t ∨ x ∈ l := by
  induction l with
  | nil => simp [insT]
  | cons y r ih =>
    unfold insT
    split
    · simp only [List.mem_cons, ih]; constructor <;> (rintro (h | h | h) <;> simp [h])
    · simp
theorem posT_put : ∀ (l : List Tm) (t : Tm), SortedT l → putAt l t (posT l t)
  | [], _, _ => ⟨Nat.le_refl _, fun _ h => absurd h (Nat.not_lt_zero _), fun _ h => absurd h (Nat.not_lt_zero _)⟩
  | x :: r, t, hs => by
    obtain ⟨h1, h2⟩ := List.pairwise_cons.1 hs
    obtain ⟨k1, k2, k3⟩ := posT_put r t h2
    unfold posT
    by_cases hx : cmpT x t < 0
    · rw [if_pos hx]
      refine ⟨by simpa using k1, fun j h hj => ?_, fun j h hj => ?_⟩
      · cases j with
        | zero => exact hx
        | succ j => exact k2 j (by simpa using h) (by omega)
      · cases j with
        | zero => omega
        | succ j => exact k3 j (by simpa using h) (by omega)
    · rw [if_neg hx]
      refine ⟨Nat.zero_le _, fun j h hj => by omega, fun j h _ => ?_⟩
      cases j with
      | zero => simpa using hx
      | succ j =>
        have hm : r[j]'(by simpa using h) ∈ r := List.getElem_mem _
        have := h1 _ hm
        rcases (show cmpT (r[j]'(by simpa using h)) t < 0 ∨ 0 ≤ cmpT (r[j]'(by simpa using h)) t by omega) with h' | h'
        · exact absurd ((cmpT_neg _ _).2 (ltT_trans this ((cmpT_neg _ _).1 h'))) hx
        · exact h'
theorem insT_sorted {l : List Tm} {t : Tm} (hs : SortedT l) (hid : ∀ x ∈ l, x.id ≠ t.id) : SortedT (insT l t) := by
  induction l with
  | nil => exact List.pairwise_singleton _ _
  | cons x r ih =>
    obtain ⟨h1, h2⟩ := List.pairwise_cons.1 hs
    unfold insT
    split
    · rename_i hx
      refine List.pairwise_cons.2 ⟨fun y hy => ?_, ih h2 fun y hy => hid y (List.mem_cons_of_mem _ hy)⟩
      rcases mem_insT.1 hy with rfl | hy
      · exact (cmpT_neg _ _).1 hx
      · exact h1 y hy
    · rename_i hx
      have hxt : ltT t x := by
        rcases ltT_total (hid x (List.mem_cons_self ..)) with h | h
        · exact absurd ((cmpT_neg _ _).2 h) hx
        · exact h
      refine List.pairwise_cons.2 ⟨fun y hy => ?_, hs⟩
      rcases List.mem_cons.1 hy with rfl | hy
      · exact hxt
      · exact ltT_trans hxt (h1 y hy)

def viewB (ns : List Nd) : List (Int × List Tm) := ns.map fun d => (d.clk, d.l)
theorem viewB_set (ns : List Nd) (i : Nat) (d : Nd) : viewB (ns.set i d) = (viewB ns).set i (d.clk, d.l) := by
  unfold viewB; rw [List.map_set]

/-- e0, and the board is m'. -/
def BPost (w : World) (p N : Nat) (ns : List Nd) (e0 : Ending) (m' : List (Int × List Tm)) (e : Ending) (w' : World) : Prop := e = e0 ∧ ∃ ns', BdTo w w' p N ns ns' ∧ viewB ns' = m'

theorem pt_putB (p N : Nat) (ns : List Nd) (i : Nat) (hi : i < ns.length) (t : Tm) (w : World) (h : Bd w p N ns) (hs : SortedT ns[i].l) (hbig : ns[i].l.length ≤ 1000) :
    Calls Try.prog 25 #[.pointer (some ⟨N, i * 2, none⟩), .agg #[.int .i64 t.id, .int .i64 t.due, .int .i64 t.every]] w
      (BPost w p N ns (.returned (.tuple #[])) ((viewB ns).set i (ns[i].clk, insT ns[i].l t))) := by
  refine (pt_put N (i * 2) _ ns[i].a ns[i].c ns[i].l t (posT ns[i].l t) w h.hN (by rw [List.getElem?_toArray]; exact (ncells_get ns i hi).2) (h.row i hi) (h.own i hi).1 (posT_put _ _ hs) hbig).mono ?_
  rintro e w' ⟨a', c', rfl, hg, hr, ht, hf⟩
  rw [insT_eq] at hg hr
  refine ⟨rfl, _, h.step i hi ⟨ns[i].clk, a', c', insT ns[i].l t⟩ ?_ hr ht hf, viewB_set ..⟩
  rw [hg, ← ncells_set ns i hi]
  simp

theorem pt_dropB (p N : Nat) (ns : List Nd) (i : Nat) (hi : i < ns.length) (id : Int) (w : World) (h : Bd w p N ns) (hbig : ns[i].l.length ≤ 1000) :
    Calls Try.prog 24 #[.pointer (some ⟨N, i * 2, none⟩), .int .i64 id] w
      (BPost w p N ns (.returned (.bool (decide ((keepT id ns[i].l).length < ns[i].l.length)))) ((viewB ns).set i (ns[i].clk, keepT id ns[i].l))) := by
  refine (pt_drop N (i * 2) _ ns[i].a ns[i].c ns[i].l id w h.hN (by rw [List.getElem?_toArray]; exact (ncells_get ns i hi).2) (h.row i hi) (h.own i hi).1 hbig).mono ?_
  rintro e w' ⟨rfl, hg, hr, ht⟩
  refine ⟨rfl, _, h.step i hi ⟨ns[i].clk, ns[i].a, ns[i].c, keepT id ns[i].l⟩ ?_ hr ht (Fresh.refl _ _), viewB_set ..⟩
  rw [hg, ← ncells_set ns i hi]
  simp

end Go.Proofs.Ytcolaafgjlaikaa
