/- Things in any order; appends among them. -/
import Derived.Test.YtnemgmlhcjhdhaaX
namespace Go.Proofs.Ytnemgmlhcjhdhaa
open Go.RowKit
open Classical in
/-- so often each thing is named. -/
noncomputable def cnt (x : Asn) (l : List Asn) : Nat := l.count x
open Classical in
theorem perm_ct {l l' : List Asn} (h : ∀ x, cnt x l = cnt x l') : l.Perm l' := List.perm_iff_count.2 h
open Classical in
/-- one. -/
noncomputable def on (x a : Asn) : Nat := if a = x then 1 else 0
open Classical in
theorem cnt_nil (x : Asn) : cnt x [] = 0 := by unfold cnt; simp
open Classical in
theorem cnt_cons (x a : Asn) (l : List Asn) : cnt x (a :: l) = cnt x l + on x a := by
  unfold cnt on; rw [List.count_cons]; simp
open Classical in
theorem cnt_append (x : Asn) (l r : List Asn) : cnt x (l ++ r) = cnt x l + cnt x r := by unfold cnt; rw [List.count_append]
example (A B C D E : Asn) (T : List Asn) : (A :: B :: ([C, D] ++ (E :: T))).Perm (E :: C :: (T ++ [B, A, D])) := perm_ct fun x => by
  simp only [cnt_cons, cnt_append, cnt_nil]; omega
theorem Mem.appP {w0 w : World} {D0 : List Nat} {a b : Option Addr} {ca cb : Nat} {I J : List Int} {l r : List Asn} [Stables r] (h : Mem w0 D0 w l) (hn : I.length + J.length ≤ 1000000) (hp : l.Perm (RowI a ca I :: RowI b cb J :: r)) :
    ∃ a' c' w', (Builtin.append_ #[43, 43] 43 #[.slice a I.length ca, .slice b J.length cb]).run Try.prog w = .ok (.slice a' (I.length + J.length) c') w' ∧ Mem w0 D0 w' (RowI a' c' (I ++ J) :: RowI b cb J :: r) := Mem.appRow (h.perm hp) hn
/-- who blocks one, of a line, of so many of its queue. -/
def blkQ (hs qs : List Hd) (o : Int) : Nat → List Int
  | 0 => []
  | i + 1 => blkQ hs qs o i ++ (match qs[i]? with | some z => if z.owner = o then blkH hs z ++ blkH (qs.take i) z else [] | none => [])
def blkLi (l : Li) (o : Int) : List Int := blkQ l.hs l.qs o l.qs.length
def blkL (L : List Li) (o : Int) : List Int := L.flatMap fun l => blkLi l o
theorem blkQ_next {hs qs : List Hd} {o : Int} {i : Nat} (h : i < qs.length) : blkQ hs qs o (i + 1) = blkQ hs qs o i ++ (if qs[i].owner = o then blkH hs qs[i] ++ blkH (qs.take i) qs[i] else []) := by
  rw [blkQ, List.getElem?_eq_getElem h]
set_option maxRecDepth 100000 in
theorem blkQ_len {hs qs : List Hd} (o : Int) (hb : hs.length + qs.length ≤ 64) : ∀ i, i ≤ qs.length → (blkQ hs qs o i).length ≤ i * 64
  | 0, _ => by simp [blkQ]
  | i + 1, h => by
    have ih := blkQ_len o hb i (by omega)
    rw [blkQ_next (by omega), List.length_append, Nat.succ_mul]
    have h1 := blkH_len hs qs[i]
    have h2 := blkH_len (qs.take i) qs[i]
    rw [List.length_take] at h2
    split
    · rw [List.length_append]; omega
    · rw [List.length_nil]; omega
def midB (L : List Li) (o : Int) (j : Nat) : List Int := (L.take j).flatMap fun l => blkLi l o
theorem midB_next {L : List Li} {o : Int} {i : Nat} (h : i < L.length) : midB L o (i + 1) = midB L o i ++ blkLi L[i] o := by
  unfold midB
  rw [List.take_succ_eq_append_getElem h, List.flatMap_append]; simp
set_option maxRecDepth 100000 in
theorem midB_len {L : List Li} (hb : Sm 64 L) (o : Int) : ∀ i, i ≤ L.length → (midB L o i).length ≤ i * 4096
  | 0, _ => by simp [midB]
  | i + 1, h => by
    have ih := midB_len hb o i (by omega)
    rw [midB_next (by omega), List.length_append, Nat.succ_mul]
    have h1 := hb.2 L[i] (List.getElem_mem _)
    have h2 := blkQ_len (hs := L[i].hs) (qs := L[i].qs) o h1 L[i].qs.length (Nat.le_refl _)
    have h3 : L[i].qs.length * 64 ≤ 64 * 64 := Nat.mul_le_mul_right _ (by omega)
    unfold blkLi
    omega
end Go.Proofs.Ytnemgmlhcjhdhaa
