/- The table in memory; find, place. -/
import Derived.Test.YtlmfpkfgjfdhgaaE
import Derived.Test.YtlmfpkfgjfdhgaaMem
import Derived.Test.YtlmfpkfgjfdhgaaB
import Derived.Test.YtlmfpkfgjfdhgaaC
namespace Go.Proofs.Ytlmfpkfgjfdhgaa
open Go.RowKit

/-- the function that the table keeps. -/
def nextF (wd : Bool) : Value := .func (.func (if wd then 32 else 33)) #[] #[]
structure Tb (w : World) (p : Nat) (wd : Bool) (la : Option Addr) (lc : Nat) (M : List Mb) (ka : Option Addr) (kc : Nat) (K : List Lk) : Prop where
  hp : w.heap[p]? = some (.cells #[.bool wd, .slice la M.length lc, .slice ka K.length kc, nextF wd] 73 (0, 0))
  rm : Row w 77 4 la M.length lc (mbFlat M)
  rk : Row w 82 2 ka K.length kc (lkFlat K)
  nm : p ∉ blkOf la
  nk : p ∉ blkOf ka
  ap : ∀ x ∈ blkOf la, x ∉ blkOf ka
def tbD (p : Nat) (la ka : Option Addr) : List Nat := p :: (blkOf la ++ blkOf ka)
def TbA (p : Nat) (wd : Bool) (M : List Mb) (K : List Lk) : Asn := fun w D => ∃ la lc ka kc, D = tbD p la ka ∧ Tb w p wd la lc M ka kc K
section
variable {w w' : World} {p : Nat} {wd : Bool} {la : Option Addr} {lc : Nat} {M : List Mb} {ka : Option Addr} {kc : Nat} {K : List Lk}
theorem Tb.lt (h : Tb w p wd la lc M ka kc K) : ∀ x ∈ tbD p la ka, x < w.heap.size := fun x hx => by
  rcases List.mem_cons.1 hx with rfl | hx
  · exact lt_of_heap h.hp
  · rcases List.mem_append.1 hx with hx | hx
    · obtain ⟨y, hy, rfl⟩ := mem_blkOf.1 hx; exact h.rm.lt y hy
    · obtain ⟨y, hy, rfl⟩ := mem_blkOf.1 hx; exact h.rk.lt y hy
theorem Tb.keep (h : Tb w p wd la lc M ka kc K) (hk : ∀ x ∈ tbD p la ka, w'.heap[x]? = w.heap[x]?) : Tb w' p wd la lc M ka kc K :=
  ⟨(hk _ (by simp [tbD])).trans h.hp, h.rm.keep fun x hx => hk x (by simp [tbD, hx]), h.rk.keep fun x hx => hk x (by simp [tbD, hx]), h.nm, h.nk, h.ap⟩
theorem Tb.below (h : Tb w p wd la lc M ka kc K) (b : Below w.heap.size w w') : Tb w' p wd la lc M ka kc K := h.keep fun x hx => b.block x (h.lt x hx)
instance {p : Nat} {wd : Bool} {M : List Mb} {K : List Lk} : Stable (TbA p wd M K) where
  lt := fun ⟨la, lc, ka, kc, e, h⟩ x hx => by subst e; exact h.lt x hx
  keep := fun ⟨la, lc, ka, kc, e, h⟩ hk => ⟨la, lc, ka, kc, e, h.keep (by subst e; exact hk)⟩
theorem Tb.cell0 (h : Tb w p wd la lc M ka kc K) : w.cell? ⟨p, 0, none⟩ = some (.bool wd) := (cell_of_heap h.hp rfl).1
theorem Tb.cell1 (h : Tb w p wd la lc M ka kc K) : w.cell? ⟨p, 1, none⟩ = some (.slice la M.length lc) ∧ w.frozen? ⟨p, 1, none⟩ = false := cell_of_heap h.hp rfl
theorem Tb.cell2 (h : Tb w p wd la lc M ka kc K) : w.cell? ⟨p, 2, none⟩ = some (.slice ka K.length kc) ∧ w.frozen? ⟨p, 2, none⟩ = false := cell_of_heap h.hp rfl
theorem Tb.cell3 (h : Tb w p wd la lc M ka kc K) : w.cell? ⟨p, 3, none⟩ = some (nextF wd) := (cell_of_heap h.hp rfl).1
/-- the members are others now. -/
theorem Tb.setM (h : Tb w p wd la lc M ka kc K) {la' : Option Addr} {lc' : Nat} {M' : List Mb} (hr : Row w' 77 4 la' M'.length lc' (mbFlat M')) (ht : Touch (blkOf la) w w') (hf : Fresh w la la') :
    Tb (w'.setCell ⟨p, 1, none⟩ (.slice la' M'.length lc')) p wd la' lc' M' ka kc K ∧ Step w (tbD p la ka) (w'.setCell ⟨p, 1, none⟩ (.slice la' M'.length lc')) (tbD p la' ka) := by
  have hps := lt_of_heap h.hp
  have hn : ∀ x ∈ blkOf la', x ∈ blkOf la ∨ w.heap.size ≤ x := fun x hx => by obtain ⟨y, hy, rfl⟩ := mem_blkOf.1 hx; exact hf y hy
  have hpa : p ∉ blkOf la' := fun hm => by rcases hn p hm with h' | h'; exact h.nm h'; omega
  have hk : ∀ x ∈ blkOf ka, x < w.heap.size := fun x hx => by obtain ⟨y, hy, rfl⟩ := mem_blkOf.1 hx; exact h.rk.lt y hy
  have hap : ∀ x ∈ blkOf la', x ∉ blkOf ka := fun x hx hm => by
    rcases hn x hx with h' | h'
    · exact h.ap x h' hm
    · have := hk x hm; omega
  have hT := Touch.setCell (bs := [p]) w' ⟨p, 1, none⟩ (.slice la' M'.length lc') (by simp)
  refine ⟨⟨?_, ?_, ?_, hpa, h.nk, hap⟩, ?_, fun x hx => ?_⟩
  · rw [heap_set (ht.heap h.hp h.nm)]; rfl
  · exact hr.touch hT fun x hx hm => hpa (mem_blkOf.2 ⟨x, hx, by simpa using hm⟩)
  · exact (h.rk.touch ht fun x hx hm => h.ap _ hm (mem_blkOf.2 ⟨x, hx, rfl⟩)).touch hT fun x hx hm => h.nk (mem_blkOf.2 ⟨x, hx, by simpa using hm⟩)
  · exact (ht.mono (cs := tbD p la ka) fun x hx => .inl (by simp [tbD, hx])).andThen (Touch.setCell _ _ _ (by simp [tbD]))
  · rcases List.mem_cons.1 hx with rfl | hx
    · exact .inl (by simp [tbD])
    · rcases List.mem_append.1 hx with hx | hx
      · rcases hn x hx with h' | h'
        · exact .inl (by simp [tbD, h'])
        · exact .inr h'
      · exact .inl (by simp [tbD, hx])
/-- the locks are others now. -/
theorem Tb.setK (h : Tb w p wd la lc M ka kc K) {ka' : Option Addr} {kc' : Nat} {K' : List Lk} (hr : Row w' 82 2 ka' K'.length kc' (lkFlat K')) (ht : Touch (blkOf ka) w w') (hf : Fresh w ka ka') :
    Tb (w'.setCell ⟨p, 2, none⟩ (.slice ka' K'.length kc')) p wd la lc M ka' kc' K' ∧ Step w (tbD p la ka) (w'.setCell ⟨p, 2, none⟩ (.slice ka' K'.length kc')) (tbD p la ka') := by
  have hps := lt_of_heap h.hp
  have hn : ∀ x ∈ blkOf ka', x ∈ blkOf ka ∨ w.heap.size ≤ x := fun x hx => by obtain ⟨y, hy, rfl⟩ := mem_blkOf.1 hx; exact hf y hy
  have hpa : p ∉ blkOf ka' := fun hm => by rcases hn p hm with h' | h'; exact h.nk h'; omega
  have hk : ∀ x ∈ blkOf la, x < w.heap.size := fun x hx => by obtain ⟨y, hy, rfl⟩ := mem_blkOf.1 hx; exact h.rm.lt y hy
  have hap : ∀ x ∈ blkOf la, x ∉ blkOf ka' := fun x hx hm => by
    rcases hn x hm with h' | h'
    · exact h.ap x hx h'
    · have := hk x hx; omega
  have hT := Touch.setCell (bs := [p]) w' ⟨p, 2, none⟩ (.slice ka' K'.length kc') (by simp)
  refine ⟨⟨?_, ?_, ?_, h.nm, hpa, hap⟩, ?_, fun x hx => ?_⟩
  · rw [heap_set (ht.heap h.hp h.nk)]; rfl
  · exact (h.rm.touch ht fun x hx hm => h.ap _ (mem_blkOf.2 ⟨x, hx, rfl⟩) hm).touch hT fun x hx hm => h.nm (mem_blkOf.2 ⟨x, hx, by simpa using hm⟩)
  · exact hr.touch hT fun x hx hm => hpa (mem_blkOf.2 ⟨x, hx, by simpa using hm⟩)
  · exact (ht.mono (cs := tbD p la ka) fun x hx => .inl (by simp [tbD, hx])).andThen (Touch.setCell _ _ _ (by simp [tbD]))
  · rcases List.mem_cons.1 hx with rfl | hx
    · exact .inl (by simp [tbD])
    · rcases List.mem_append.1 hx with hx | hx
      · exact .inl (by simp [tbD, hx])
      · rcases hn x hx with h' | h'
        · exact .inl (by simp [tbD, h'])
        · exact .inr h'
end

/-- how many stand ahead. -/
def posBy {α : Type} (q : α → Bool) : List α → Nat
  | [] => 0
  | x :: r => if q x then posBy q r + 1 else 0
theorem posBy_le {α : Type} (q : α → Bool) (l : List α) : posBy q l ≤ l.length := by
  induction l with
  | nil => exact Nat.le_refl _
  | cons x r ih => unfold posBy; split <;> simp <;> omega
theorem posBy_lt {α : Type} (q : α → Bool) : ∀ (l : List α) (j : Nat) (h : j < l.length), j < posBy q l → q l[j] = true
  | [], _, h, _ => by cases h
  | x :: r, j, h, hj => by
    unfold posBy at hj
    split at hj
    · cases j with
      | zero => assumption
      | succ j => exact posBy_lt q r j (by simpa using h) (by omega)
    · omega
theorem posBy_ge {α : Type} (q : α → Bool) (R : α → α → Prop) (hq : ∀ a b, R a b → q a = false → q b = false) : ∀ (l : List α), l.Pairwise R → ∀ (j : Nat) (h : j < l.length), posBy q l ≤ j → q l[j] = false
  | [], _, _, h, _ => by cases h
  | x :: r, hs, j, h, hj => by
    obtain ⟨h1, h2⟩ := List.pairwise_cons.1 hs
    unfold posBy at hj
    split at hj
    · cases j with
      | zero => omega
      | succ j => exact posBy_ge q R hq r h2 j (by simpa using h) (by omega)
    · rename_i hx
      cases j with
      | zero => simpa using hx
      | succ j => exact hq _ _ (h1 _ (List.getElem_mem _)) (by simpa using hx)

abbrev SortM (M : List Mb) : Prop := M.Pairwise fun a b => a.id < b.id
abbrev SortK (K : List Lk) : Prop := K.Pairwise fun a b => ltS a.key b.key = true
def posM (M : List Mb) (id : Int) : Nat := posBy (fun m => decide (m.id < id)) M
def hasM (M : List Mb) (id : Int) : Bool := M.any fun m => m.id == id
def posK (K : List Lk) (k : ByteArray) : Nat := posBy (fun l => ltS l.key k) K
def hasK (K : List Lk) (k : ByteArray) : Bool := K.any fun l => decide (l.key = k)
theorem cmpI_neg (a b : Int) : cmpI a b < 0 ↔ a < b := by
  rcases cmpI_cases a b with ⟨h, e⟩ | ⟨h, e⟩ | ⟨h, e⟩ <;> rw [e] <;> constructor <;> intro _ <;> omega
theorem cmpI_zero (a b : Int) : cmpI a b = 0 ↔ a = b := by
  rcases cmpI_cases a b with ⟨h, e⟩ | ⟨h, e⟩ | ⟨h, e⟩ <;> rw [e] <;> constructor <;> intro _ <;> omega
theorem cmpS_neg (a b : ByteArray) : cmpS a b < 0 ↔ ltS a b = true := by
  rcases cmpS_cases a b with ⟨h, e⟩ | ⟨h, _, e⟩ | ⟨h, _, _, e⟩ <;> rw [e, h] <;> simp
theorem cmpS_zero (a b : ByteArray) : cmpS a b = 0 ↔ a = b := by
  rcases cmpS_cases a b with ⟨h, e⟩ | ⟨h, k, e⟩ | ⟨h, k, h3, e⟩
  · rw [e]; constructor
    · intro h'; cases h'
    · rintro rfl; rw [ltS_irrefl] at h; cases h
  · rw [e]; constructor
    · intro h'; cases h'
    · rintro rfl; rw [ltS_irrefl] at k; cases k
  · rw [e]; simp [h3]
theorem posM_ge {M : List Mb} (hs : SortM M) (id : Int) (j : Nat) (h : j < M.length) (hj : posM M id ≤ j) : id ≤ M[j].id := by
  have := posBy_ge (fun m : Mb => decide (m.id < id)) (fun a b => a.id < b.id) (fun a b hab ha => by simp at ha ⊢; omega) M hs j h hj
  simpa using this
theorem posM_lt {M : List Mb} (id : Int) (j : Nat) (h : j < M.length) (hj : j < posM M id) : M[j].id < id := by
  have := posBy_lt (fun m : Mb => decide (m.id < id)) M j h hj
  simpa using this
theorem posK_ge {K : List Lk} (hs : SortK K) (k : ByteArray) (j : Nat) (h : j < K.length) (hj : posK K k ≤ j) : ltS K[j].key k = false :=
  posBy_ge (fun l : Lk => ltS l.key k) (fun a b => ltS a.key b.key = true) (fun a b hab ha => by
    cases hb : ltS b.key k with
    | false => rfl
    | true => rw [ltS_trans hab hb] at ha; cases ha) K hs j h hj
theorem posK_lt {K : List Lk} (k : ByteArray) (j : Nat) (h : j < K.length) (hj : j < posK K k) : ltS K[j].key k = true := posBy_lt (fun l : Lk => ltS l.key k) K j h hj
/-- who is a member stands at its place. -/
theorem hasM_iff {M : List Mb} (hs : SortM M) (id : Int) : hasM M id = true ↔ ∃ h : posM M id < M.length, (M[posM M id]'h).id = id := by
  constructor
  · intro h
    obtain ⟨m, hm, e⟩ := List.any_eq_true.1 h
    obtain ⟨j, hj, rfl⟩ := List.getElem_of_mem hm
    have e' : M[j].id = id := by simpa using e
    have h1 : posM M id ≤ j := by
      rcases Nat.lt_or_ge j (posM M id) with h | h
      · have := posM_lt id j hj h; omega
      · exact h
    have h2 : posM M id < M.length := by omega
    have h3 := posM_ge hs id _ h2 (Nat.le_refl _)
    refine ⟨h2, ?_⟩
    rcases Nat.lt_or_ge (posM M id) j with h | h
    · have := List.pairwise_iff_getElem.1 hs _ _ h2 hj h
      omega
    · obtain rfl : j = posM M id := by omega
      exact e'
  · rintro ⟨h, e⟩
    exact List.any_eq_true.2 ⟨_, List.getElem_mem h, by simpa using e⟩
theorem hasK_iff {K : List Lk} (hs : SortK K) (k : ByteArray) : hasK K k = true ↔ ∃ h : posK K k < K.length, (K[posK K k]'h).key = k := by
  constructor
  · intro h
    obtain ⟨m, hm, e⟩ := List.any_eq_true.1 h
    obtain ⟨j, hj, rfl⟩ := List.getElem_of_mem hm
    have e' : K[j].key = k := by simpa using e
    have h1 : posK K k ≤ j := by
      rcases Nat.lt_or_ge j (posK K k) with h | h
      · have := posK_lt k j hj h; rw [e', ltS_irrefl] at this; cases this
      · exact h
    have h2 : posK K k < K.length := by omega
    have h3 := posK_ge hs k _ h2 (Nat.le_refl _)
    refine ⟨h2, ?_⟩
    rcases Nat.lt_or_ge (posK K k) j with h | h
    · have := List.pairwise_iff_getElem.1 hs _ _ h2 hj h
      rw [e'] at this; rw [this] at h3; cases h3
    · obtain rfl : j = posK K k := by omega
      exact e'
  · rintro ⟨h, e⟩
    exact List.any_eq_true.2 ⟨_, List.getElem_mem h, by simpa using e⟩
theorem foundM {M : List Mb} (hs : SortM M) (id : Int) : foundAt (fun (x : Mb) (t : Int) => cmpI x.id t) M id (posM M id) = hasM M id := by
  rw [Bool.eq_iff_iff, hasM_iff hs]
  unfold foundAt
  simp only [decide_eq_true_eq]
  constructor
  · rintro ⟨_, h, e⟩; exact ⟨h, (cmpI_zero _ _).1 e⟩
  · rintro ⟨h, e⟩; exact ⟨h, h, (cmpI_zero _ _).2 e⟩
theorem foundK {K : List Lk} (hs : SortK K) (k : ByteArray) : foundAt (fun (x : Lk) (t : ByteArray) => cmpS x.key t) K k (posK K k) = hasK K k := by
  rw [Bool.eq_iff_iff, hasK_iff hs]
  unfold foundAt
  simp only [decide_eq_true_eq]
  constructor
  · rintro ⟨_, h, e⟩; exact ⟨h, (cmpS_zero _ _).1 e⟩
  · rintro ⟨h, e⟩; exact ⟨h, h, (cmpS_zero _ _).2 e⟩

set_option maxHeartbeats 800000 in
theorem tb_find (p : Nat) (wd : Bool) (la : Option Addr) (lc : Nat) (M : List Mb) (ka : Option Addr) (kc : Nat) (K : List Lk) (id : Int) (w : World) (h : Tb w p wd la lc M ka kc K) (hs : SortM M) (hbig : M.length ≤ 1000) :
    Calls Try.prog 34 #[.pointer (some ⟨p, 0, none⟩), .int .i64 id] w fun e w' => e = .returned (.tuple #[.int .i64 (posM M id), .bool (hasM M id)]) ∧ Below w.heap.size w w' := by
  have hc := h.cell1.1
  have HB := Lib.hid (find_bsf (fun (x : Mb) (t : Int) => cmpI x.id t) find1_any la M.length lc M id (posM M id) w h.rm (by omega) (posBy_le _ _) (fun j hj hl => (cmpI_neg _ _).2 (posM_lt id j hj hl)) (fun j hj hl => by
    have := posM_ge hs id j hj hl
    rcases Int.lt_or_le (cmpI M[j].id id) 0 with h2 | h2
    · have := (cmpI_neg _ _).1 h2; omega
    · exact h2))
  rw [foundM hs] at HB
  clear h hs
  generalize posM M id = q at *
  generalize hasM M id = b at *
  generalize M.length = n at *
  go_enter Try.func34, Try.ntmps34
  go_wp2_with fail
  refine HB.out.mono ?_
  rintro e w1 ⟨rfl, hb⟩
  have HB1 := Lib.hid hb
  clear hb
  go_wp2_with fail
  go_ret2
  exact ⟨rfl, HB1.out⟩
set_option maxHeartbeats 800000 in
theorem tb_place (p : Nat) (wd : Bool) (la : Option Addr) (lc : Nat) (M : List Mb) (ka : Option Addr) (kc : Nat) (K : List Lk) (k : ByteArray) (w : World) (h : Tb w p wd la lc M ka kc K) (hs : SortK K) (hbig : K.length ≤ 100000) :
    Calls Try.prog 38 #[.pointer (some ⟨p, 0, none⟩), .string k] w fun e w' => e = .returned (.tuple #[.int .i64 (posK K k), .bool (hasK K k)]) ∧ Below w.heap.size w w' := by
  have hc := h.cell2.1
  have HB := Lib.hid (place_bsf (fun (x : Lk) (t : ByteArray) => cmpS x.key t) place1_any ka K.length kc K k (posK K k) w h.rk (by omega) (posBy_le _ _) (fun j hj hl => (cmpS_neg _ _).2 (posK_lt k j hj hl)) (fun j hj hl => by
    have h1 := posK_ge hs k j hj hl
    rcases Int.lt_or_le (cmpS K[j].key k) 0 with h2 | h2
    · rw [(cmpS_neg _ _).1 h2] at h1; cases h1
    · exact h2))
  rw [foundK hs] at HB
  clear h hs
  generalize posK K k = q at *
  generalize hasK K k = b at *
  generalize K.length = n at *
  go_enter Try.func38, Try.ntmps38
  go_wp2_with fail
  refine HB.out.mono ?_
  rintro e w1 ⟨rfl, hb⟩
  have HB1 := Lib.hid hb
  clear hb
  go_wp2_with fail
  go_ret2
  exact ⟨rfl, HB1.out⟩
end Go.Proofs.Ytlmfpkfgjfdhgaa
