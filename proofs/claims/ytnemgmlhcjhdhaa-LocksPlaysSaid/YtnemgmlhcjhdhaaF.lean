/- The lock table as plain lists. -/
import Derived.Test.YtnemgmlhcjhdhaaE
namespace Go.Proofs.Ytnemgmlhcjhdhaa
open Go.RowKit

/-- a key's holders and queue. -/
structure Li where
  key : ByteArray
  hs : List Hd
  qs : List Hd
/-- how many stand ahead. -/
def posBy {α : Type} (q : α → Bool) : List α → Nat
  | [] => 0
  | x :: r => if q x then posBy q r + 1 else 0
theorem posBy_le {α : Type} (q : α → Bool) (l : List α) : posBy q l ≤ l.length := by
  induction l with
  | nil => exact Nat.le_refl _
  | cons x r ih => unfold posBy; split <;> simp <;> omega
theorem posBy_lt {α : Type} (q : α → Bool) : ∀ (l : List α) (j : Nat) (h : j < l.length), j < posBy q l → q l[j] = true
  | [], _, h, _ => by cases h
  | x :: r, j, h, hj => by
    unfold posBy at hj
    split at hj
    · cases j with
      | zero => assumption
      | succ j => exact posBy_lt q r j (by simpa using h) (by omega)
    · omega
theorem posBy_ge {α : Type} (q : α → Bool) (R : α → α → Prop) (hq : ∀ a b, R a b → q a = false → q b = false) : ∀ (l : List α), l.Pairwise R → ∀ (j : Nat) (h : j < l.length), posBy q l ≤ j → q l[j] = false
  | [], _, _, h, _ => by cases h
  | x :: r, hs, j, h, hj => by
    obtain ⟨h1, h2⟩ := List.pairwise_cons.1 hs
    unfold posBy at hj
    split at hj
    · cases j with
      | zero => omega
      | succ j => exact posBy_ge q R hq r h2 j (by simpa using h) (by omega)
    · rename_i hx
      cases j with
      | zero => simpa using hx
      | succ j => exact hq _ _ (h1 _ (List.getElem_mem _)) (by simpa using hx)


abbrev SortH (M : List Hd) : Prop := M.Pairwise fun a b => a.owner < b.owner
abbrev SortL (K : List Li) : Prop := K.Pairwise fun a b => ltS a.key b.key = true
def posH (M : List Hd) (id : Int) : Nat := posBy (fun m => decide (m.owner < id)) M
def hasH (M : List Hd) (id : Int) : Bool := M.any fun m => m.owner == id
def posL (K : List Li) (k : ByteArray) : Nat := posBy (fun l => ltS l.key k) K
def hasL (K : List Li) (k : ByteArray) : Bool := K.any fun l => decide (l.key = k)
theorem cmpI_neg (a b : Int) : cmpI a b < 0 ↔ a < b := by
  rcases cmpI_cases a b with ⟨h, e⟩ | ⟨h, e⟩ | ⟨h, e⟩ <;> rw [e] <;> constructor <;> intro _ <;> omega
theorem cmpI_zero (a b : Int) : cmpI a b = 0 ↔ a = b := by
  rcases cmpI_cases a b with ⟨h, e⟩ | ⟨h, e⟩ | ⟨h, e⟩ <;> rw [e] <;> constructor <;> intro _ <;> omega
theorem cmpS_neg (a b : ByteArray) : cmpS a b < 0 ↔ ltS a b = true := by
  rcases cmpS_cases a b with ⟨h, e⟩ | ⟨h, _, e⟩ | ⟨h, _, _, e⟩ <;> rw [e, h] <;> simp
theorem cmpS_zero (a b : ByteArray) : cmpS a b = 0 ↔ a = b := by
  rcases cmpS_cases a b with ⟨h, e⟩ | ⟨h, k, e⟩ | ⟨h, k, h3, e⟩
  · rw [e]; constructor
    · intro h'; cases h'
    · rintro rfl; rw [ltS_irrefl] at h; cases h
  · rw [e]; constructor
    · intro h'; cases h'
    · rintro rfl; rw [ltS_irrefl] at k; cases k
  · rw [e]; simp [h3]
theorem posH_ge {M : List Hd} (hs : SortH M) (id : Int) (j : Nat) (h : j < M.length) (hj : posH M id ≤ j) : id ≤ M[j].owner := by
  have := posBy_ge (fun m : Hd => decide (m.owner < id)) (fun a b => a.owner < b.owner) (fun a b hab ha => by simp at ha ⊢; omega) M hs j h hj
  simpa using this
theorem posH_lt {M : List Hd} (id : Int) (j : Nat) (h : j < M.length) (hj : j < posH M id) : M[j].owner < id := by
  have := posBy_lt (fun m : Hd => decide (m.owner < id)) M j h hj
  simpa using this
theorem posL_ge {K : List Li} (hs : SortL K) (k : ByteArray) (j : Nat) (h : j < K.length) (hj : posL K k ≤ j) : ltS K[j].key k = false :=
  posBy_ge (fun l : Li => ltS l.key k) (fun a b => ltS a.key b.key = true) (fun a b hab ha => by
    cases hb : ltS b.key k with
    | false => rfl
    | true => rw [ltS_trans hab hb] at ha; cases ha) K hs j h hj
theorem posL_lt {K : List Li} (k : ByteArray) (j : Nat) (h : j < K.length) (hj : j < posL K k) : ltS K[j].key k = true := posBy_lt (fun l : Li => ltS l.key k) K j h hj
/-- who is a member stands at its place. -/
theorem hasH_iff {M : List Hd} (hs : SortH M) (id : Int) : hasH M id = true ↔ ∃ h : posH M id < M.length, (M[posH M id]'h).owner = id := by
  constructor
  · intro h
    obtain ⟨m, hm, e⟩ := List.any_eq_true.1 h
    obtain ⟨j, hj, rfl⟩ := List.getElem_of_mem hm
    have e' : M[j].owner = id := by simpa using e
    have h1 : posH M id ≤ j := by
      rcases Nat.lt_or_ge j (posH M id) with h | h
      · have := posH_lt id j hj h; omega
      · exact h
    have h2 : posH M id < M.length := by omega
    have h3 := posH_ge hs id _ h2 (Nat.le_refl _)
    refine ⟨h2, ?_⟩
    rcases Nat.lt_or_ge (posH M id) j with h | h
    · have := List.pairwise_iff_getElem.1 hs _ _ h2 hj h
      omega
    · obtain rfl : j = posH M id := by omega
      exact e'
  · rintro ⟨h, e⟩
    exact List.any_eq_true.2 ⟨_, List.getElem_mem h, by simpa using e⟩
theorem hasL_iff {K : List Li} (hs : SortL K) (k : ByteArray) : hasL K k = true ↔ ∃ h : posL K k < K.length, (K[posL K k]'h).key = k := by
  constructor
  · intro h
    obtain ⟨m, hm, e⟩ := List.any_eq_true.1 h
    obtain ⟨j, hj, rfl⟩ := List.getElem_of_mem hm
    have e' : K[j].key = k := by simpa using e
    have h1 : posL K k ≤ j := by
      rcases Nat.lt_or_ge j (posL K k) with h | h
      · have := posL_lt k j hj h; rw [e', ltS_irrefl] at this; cases this
      · exact h
    have h2 : posL K k < K.length := by omega
    have h3 := posL_ge hs k _ h2 (Nat.le_refl _)
    refine ⟨h2, ?_⟩
    rcases Nat.lt_or_ge (posL K k) j with h | h
    · have := List.pairwise_iff_getElem.1 hs _ _ h2 hj h
      rw [e'] at this; rw [this] at h3; cases h3
    · obtain rfl : j = posL K k := by omega
      exact e'
  · rintro ⟨h, e⟩
    exact List.any_eq_true.2 ⟨_, List.getElem_mem h, by simpa using e⟩
theorem foundH {M : List Hd} (hs : SortH M) (id : Int) : foundAt (fun (x : Hd) (t : Int) => cmpI x.owner t) M id (posH M id) = hasH M id := by
  rw [Bool.eq_iff_iff, hasH_iff hs]
  unfold foundAt
  simp only [decide_eq_true_eq]
  constructor
  · rintro ⟨_, h, e⟩; exact ⟨h, (cmpI_zero _ _).1 e⟩
  · rintro ⟨h, e⟩; exact ⟨h, h, (cmpI_zero _ _).2 e⟩
theorem foundL {K : List Li} (hs : SortL K) (k : ByteArray) : foundAt (fun (x : Li) (t : ByteArray) => cmpS x.key t) K k (posL K k) = hasL K k := by
  rw [Bool.eq_iff_iff, hasL_iff hs]
  unfold foundAt
  simp only [decide_eq_true_eq]
  constructor
  · rintro ⟨_, h, e⟩; exact ⟨h, (cmpS_zero _ _).1 e⟩
  · rintro ⟨h, e⟩; exact ⟨h, h, (cmpS_zero _ _).2 e⟩


/-- an owner's mode in a list. -/
def ofH : List Hd → Int → Int
  | [], _ => 0
  | h :: r, o => if h.owner = o then h.mode else ofH r o
def clashM (a b : Int) : Bool := a == 2 || b == 2
def modeM (m : Int) : Bool := m == 1 || m == 2
def fitsH : List Hd → Int → Bool
  | [], _ => true
  | h :: r, m => !clashM h.mode m && fitsH r m
def putH (l : List Hd) (h : Hd) : List Hd := if hasH l h.owner then l.set (posH l h.owner) h else l.take (posH l h.owner) ++ h :: l.drop (posH l h.owner)
def mayH (hs : List Hd) : List Hd → Bool
  | [] => false
  | w :: _ => if 0 < ofH hs w.owner then hs.length == 1 else fitsH hs w.mode
/-- those who come in, and the holders and the queue behind it. -/
def letH (hs : List Hd) : List Hd → List Int × List Hd × List Hd
  | [] => ([], hs, [])
  | w :: r => if mayH hs (w :: r) then (w.owner :: (letH (putH hs w) r).1, (letH (putH hs w) r).2) else ([], hs, w :: r)
/-- how many of a queue are upgrades, at its beginning. -/
def upsH (hs qs : List Hd) : Nat := posBy (fun w => decide (0 < ofH hs w.owner)) qs
/-- a key's line. -/
def lineL (L : List Li) (k : ByteArray) : Li := if hasL L k then (L[posL L k]?).getD ⟨ByteArray.empty, [], []⟩ else ⟨ByteArray.empty, [], []⟩
/-- a line that is asked for one more. -/
def askLi (l : Li) (w : Hd) : Int × Li :=
  if w.mode ≤ ofH l.hs w.owner then (0, l)
  else if 0 < ofH l.qs w.owner then (10, l)
  else
    let q := if 0 < ofH l.hs w.owner then l.qs.take (upsH l.hs l.qs) ++ w :: l.qs.drop (upsH l.hs l.qs) else l.qs ++ [w]
    let r := letH l.hs q
    (if w.mode ≤ ofH r.2.1 w.owner then 0 else 10, ⟨l.key, r.2.1, r.2.2⟩)
def askL (L : List Li) (o : Int) (k : ByteArray) (m : Int) : Int × List Li :=
  if o < 0 ∨ 16 < k.size ∨ modeM m = false then (1, L)
  else if hasL L k then
    let r := askLi ((L[posL L k]?).getD ⟨k, [], []⟩) ⟨o, m⟩
    (r.1, L.set (posL L k) r.2)
  else (0, L.take (posL L k) ++ ⟨k, [⟨o, m⟩], []⟩ :: L.drop (posL L k))
/-- without an owner. -/
def outH (l : List Hd) (o : Int) : List Hd := l.filter fun h => !(h.owner == o)
def leaveLi (l : Li) (o : Int) : List Int × Li :=
  let r := letH (outH l.hs o) (outH l.qs o)
  (r.1, ⟨l.key, r.2.1, r.2.2⟩)
def emptyLi (l : Li) : Bool := l.hs.length + l.qs.length == 0
def leaveL (L : List Li) (o : Int) : List Int × List Li := (L.flatMap fun l => (leaveLi l o).1, (L.map fun l => (leaveLi l o).2).filter fun l => !emptyLi l)
end Go.Proofs.Ytnemgmlhcjhdhaa
