/- Go maps as rising lists of keys and elements (of no program). -/
import Derived.Test.YtmifgnibalbgjaaGreatZOwn
import Derived.Maps.OwnSet
import Derived.Maps.Views
import Derived.Lib.SlKeysI
namespace Go.Proofs.YtmifgnibalbgjaaGreat
open Go.RowKit

/-- An element as it is. -/
def rawE (v : Value) : Option (DataW Value × List MemPlace) := some (.held v, [])
/-- A key's type, and what is a key. -/
structure KeyE (P : Program) (k : Nat) (α : Type) where
  val : α → Value
  lit : α → Lit
  ok : α → Prop
  keyed : Maps.Keyed P k
  key : ∀ {x}, ok x → keyOf P k (val x) = some (lit x)
  inj : ∀ {x y}, lit x = lit y → x = y
  isKey : ∀ x, WideAt.IsKeyLit (lit x)
section
set_option linter.unusedSectionVars false
variable {P : Program} {k : Nat} {α : Type} [DecidableEq α] {β : Type}
def KeyE.lt (K : KeyE P k α) (a b : α) : Bool := (K.lit a).before (K.lit b)
theorem KeyE.same (K : KeyE P k α) (x y : α) : (K.lit x).sameKey (K.lit y) = decide (x = y) := by
  by_cases e : x = y
  · subst e
    have := K.isKey x
    cases h : K.lit x <;> simp [h, WideAt.IsKeyLit, Lit.sameKey] at this ⊢
  · rw [Maps.sameKey_ne fun h => e (K.inj h)]; simp [e]
def kIns (lt : α → α → Bool) (x : α × β) : List (α × β) → List (α × β)
  | [] => [x]
  | y :: r => if lt x.1 y.1 then x :: y :: r else y :: kIns lt x r
def kDel (x : α) (L : List (α × β)) : List (α × β) := L.filter fun p => !decide (p.1 = x)
def kPut (lt : α → α → Bool) (x : α) (v : β) (L : List (α × β)) : List (α × β) := kIns lt (x, v) (kDel x L)
def kGet (x : α) (L : List (α × β)) : Option β := (L.find? fun p => decide (p.1 = x)).map (·.2)
/-- what a list is as a datum. -/
def entD (K : KeyE P k α) (L : List (α × Value)) : DataW Value := .map (L.map fun p => (K.lit p.1, .held p.2))
theorem entD_at (K : KeyE P k α) (L : List (α × Value)) (x : α) (z : Value) : (entD K L).atKey (K.lit x) (.held z) = .held ((kGet x L).getD z) := by
  unfold entD DataW.atKey kGet
  simp only [List.find?_map, Function.comp_def, K.same]
  cases L.find? (fun p => decide (p.1 = x)) <;> rfl
theorem entD_has (K : KeyE P k α) (L : List (α × Value)) (x : α) : Maps.has (entD K L) (K.lit x) = (kGet x L).isSome := by
  unfold entD kGet
  rw [Maps.has_eq, List.any_map, Option.isSome_map]
  simp only [Function.comp_def, K.same]
  rw [Bool.eq_iff_iff]
  simp
theorem ins_map (K : KeyE P k α) (x : α × Value) : ∀ L : List (α × Value), DataW.insert (K.lit x.1, .held x.2) (L.map fun p => (K.lit p.1, DataW.held p.2)) = (kIns K.lt x L).map fun p => (K.lit p.1, DataW.held p.2)
  | [] => rfl
  | y :: r => by
    simp only [List.map_cons, DataW.insert, kIns, KeyE.lt]
    by_cases h : (K.lit x.1).before (K.lit y.1) = true
    · simp [h]
    · simp [h, ins_map K x r]
theorem del_map (K : KeyE P k α) (x : α) (L : List (α × Value)) : (L.map fun p => (K.lit p.1, DataW.held p.2)).filter (fun p => !p.1.sameKey (K.lit x)) = (kDel x L).map fun p => (K.lit p.1, DataW.held p.2) := by
  simp only [List.filter_map, Function.comp_def, K.same, kDel]
theorem entD_put (K : KeyE P k α) (L : List (α × Value)) (x : α) (v : Value) : (entD K L).put (K.lit x) (.held v) = entD K (kPut K.lt x v L) := by
  unfold entD DataW.put kPut
  simp only [del_map]
  rw [← ins_map]
theorem entD_del (K : KeyE P k α) (L : List (α × Value)) (x : α) : (entD K L).del (K.lit x) = entD K (kDel x L) := by
  unfold entD DataW.del
  simp only [del_map]
theorem entD_size (K : KeyE P k α) (L : List (α × Value)) : Maps.size (entD K L) = L.length := by simp [entD, Maps.size_eq]
theorem own_exact {R : Value → Option (DataW β × List MemPlace)} {w : World} {b n : Nat} {D : DataW β} (h : w.ownsMap P k R b n D) : w.ownsMap P k R b (Maps.size D) D := by
  obtain ⟨es, clock, hb, F, hs, rfl⟩ := h
  exact ⟨es, clock, hb, F, by simp [Maps.size_eq, length_sorted], rfl⟩
/-- Block b is a map that holds just L. -/
def KMapA (K : KeyE P k α) (b : Nat) (L : List (α × Value)) : Asn := fun w D => D = [b] ∧ w.ownsMap P k rawE b L.length (entD K L)
instance {K : KeyE P k α} {b : Nat} {L : List (α × Value)} : Stable (KMapA K b L) where
  lt := fun ⟨e, h⟩ x hx => by subst e; simp at hx; subst hx; exact h.lt
  keep := fun ⟨e, h⟩ hk => ⟨e, by
    obtain ⟨es, clock, h1, h2⟩ := h
    exact ⟨es, clock, (hk b (by subst e; simp)).trans h1, h2⟩⟩
theorem KMapA.made (K : KeyE P k α) (w : World) : KMapA K w.heap.size [] (w.alloc (.map #[] 0)) [w.heap.size] := ⟨rfl, World.ownsMap_made _ _ _ _⟩
theorem touch_turned {w w' : World} {b : Nat} (h : w.mapTurned w' b) : Touch [b] w w' := Touch.grown h.grown (by intro g hg; simp at hg; simp [hg])
section
variable {w0 w : World} {D0 : List Nat} (l : List Asn) {r : List Asn} [Stables l] [Stables r] {K : KeyE P k α} {b : Nat} {L : List (α × Value)} {t e : Nat}
theorem Mem.kLook (h : Mem w0 D0 w (l ++ KMapA K b L :: r)) (ht : P.underlying t = some (.map k e)) {z : Value} (hz : (zeroValue e).run P w = .ok z w) {x : α} (hx : K.ok x) :
    (Instr.lookup t (.map (some b)) (K.val x) true).run P w = .ok (.tuple #[(kGet x L).getD z, .bool (kGet x L).isSome]) w ∧ (Instr.lookup t (.map (some b)) (K.val x) false).run P w = .ok ((kGet x L).getD z) w := by
  obtain ⟨D, rfl, hm⟩ := Mem.get l h
  obtain ⟨v, ps, h1, h2⟩ := hm.look_ok K.keyed ht hz (show rawE z = some (.held z, []) from rfl) (K.key hx)
  obtain ⟨v', ps', h1', h2'⟩ := hm.lookup K.keyed ht hz (show rawE z = some (.held z, []) from rfl) (K.key hx)
  rw [entD_at] at h2 h2'
  simp only [rawE, Option.some.injEq, Prod.mk.injEq, DataW.held.injEq] at h2 h2'
  rw [h1, h1', entD_has, h2.1, h2'.1]
  exact ⟨rfl, rfl⟩
theorem Mem.kStore (h : Mem w0 D0 w (l ++ KMapA K b L :: r)) (ht : P.underlying t = some (.map k e)) {x : α} (hx : K.ok x) (v : Value) (hn : L.length < maxLen) :
    ∃ w', (Instr.mapUpdate t (.map (some b)) (K.val x) v).run P w = .ok () w' ∧ Mem w0 D0 w' (l ++ KMapA K b (kPut K.lt x v L) :: r) := by
  obtain ⟨D, ⟨rfl, hm⟩, kk⟩ := Mem.focus l h
  obtain ⟨w', h1, h2, h3⟩ := hm.store K.keyed ht hn (K.key hx) (show rawE v = some (.held v, []) from rfl)
  rw [entD_put] at h2
  exact ⟨w', h1, kk [KMapA K b (kPut K.lt x v L)] w' [b] (all_one ⟨rfl, by have := own_exact h2; rwa [entD_size] at this⟩) ⟨touch_turned h3, fun x hx => .inl hx⟩⟩
theorem Mem.kDrop (h : Mem w0 D0 w (l ++ KMapA K b L :: r)) (ht : P.underlying t = some (.map k e)) {x : α} (hx : K.ok x) (ty : Nat) :
    ∃ w', (Builtin.delete_ #[t, k] ty #[.map (some b), K.val x]).run P w = .ok (.tuple #[]) w' ∧ Mem w0 D0 w' (l ++ KMapA K b (kDel x L) :: r) := by
  obtain ⟨D, ⟨rfl, hm⟩, kk⟩ := Mem.focus l h
  obtain ⟨w', h1, h2, h3⟩ := hm.drop K.keyed ht (K.key hx) ty
  rw [entD_del] at h2
  exact ⟨w', h1, kk [KMapA K b (kDel x L)] w' [b] (all_one ⟨rfl, by have := own_exact h2; rwa [entD_size] at this⟩) ⟨touch_turned h3, fun x hx => .inl hx⟩⟩
end
end
/-- keys that are ints. -/
def intK {P : Program} {k : Nat} (hk : P.underlying k = some (.int .i64)) : KeyE P k Int where
  val x := .int .i64 x
  lit x := .int .i64 x
  ok x := (Lit.int .i64 x).wf = true
  keyed := Maps.int_keyed hk
  key := fun h => Maps.keyOf_int_mk hk h
  inj := fun h => by simpa using h
  isKey := fun _ => True.intro
/-- keys that are strings. -/
def strK {P : Program} {k : Nat} (hk : P.underlying k = some .string) : KeyE P k ByteArray where
  val x := .string x
  lit x := .string x.data.toList
  ok x := x.size ≤ maxLen
  keyed := Maps.string_keyed hk
  key := fun h => WideMaps.keyOf_string_mk hk h
  inj := fun {x y} h => by
    simp only [Lit.string.injEq] at h
    exact ByteArray.ext (Array.toList_inj.1 h)
  isKey := fun _ => True.intro
/-- The keys rise. -/
theorem KMapA.rise {P : Program} {k : Nat} {α : Type} [DecidableEq α] {K : KeyE P k α} {b : Nat} {L : List (α × Value)} {w : World} {D : List Nat} (h : KMapA K b L w D) : L.Pairwise fun p q => K.lt p.1 q.1 = true := by
  obtain ⟨_, es, clock, hb, F, hs, hD⟩ := h
  have h1 := WideShapes.rising_pairwise _ (Maps.fit_rising K.keyed F)
  simp only [entD, DataW.map.injEq] at hD
  rw [← hD, List.pairwise_map] at h1
  exact h1
theorem Mem.kRise {P : Program} {k : Nat} {α : Type} [DecidableEq α] {K : KeyE P k α} {b : Nat} {L : List (α × Value)} {w0 w : World} {D0 : List Nat} (l : List Asn) {r : List Asn} [Stables l] [Stables r] (h : Mem w0 D0 w (l ++ KMapA K b L :: r)) : L.Pairwise fun p q => K.lt p.1 q.1 = true := by
  obtain ⟨D, hD⟩ := Mem.get l h
  exact hD.rise
theorem intK_lt {P : Program} {k : Nat} (hk : P.underlying k = some (.int .i64)) (x y : Int) : (intK hk).lt x y = decide (x < y) := rfl
theorem strK_lt {P : Program} {k : Nat} (hk : P.underlying k = some .string) (x y : ByteArray) : (strK hk).lt x y = bytesBefore x.data.toList y.data.toList := rfl
theorem keysI {P : Program} {k : Nat} (hk : P.underlying k = some (.int .i64)) {L : List (Int × Value)} (hL : L.Pairwise fun p q => (intK hk).lt p.1 q.1 = true) {ss : List Int} (hp : ss.Perm (intKeys (entD (intK hk) L))) : (ss.mergeSort fun x y => decide (x ≤ y)) = L.map (·.1) := by
  have e : intKeys (entD (intK hk) L) = L.map (·.1) := by simp [intKeys, entD, intK, intOf, Function.comp_def]
  rw [e] at hp
  have h1 := mergeSort_of_perm_i hp
  unfold leI at h1
  rw [h1]
  refine List.mergeSort_of_pairwise ?_
  rw [List.pairwise_map]
  refine hL.imp fun h => ?_
  rw [intK_lt] at h
  simp only [decide_eq_true_eq] at h ⊢
  omega
theorem bytes_le : ∀ (a b : List UInt8), bytesBefore a b = true → a ≤ b
  | [], _, _ => List.nil_le _
  | _ :: _, [], h => by simp [bytesBefore] at h
  | x :: r, y :: s, h => by
    simp only [bytesBefore, Bool.or_eq_true, decide_eq_true_eq, Bool.and_eq_true, beq_iff_eq] at h
    rcases h with h | ⟨rfl, h⟩
    · exact List.cons_le_cons_iff.2 (.inl h)
    · exact List.cons_le_cons_iff.2 (.inr ⟨rfl, bytes_le r s h⟩)
theorem keysS {P : Program} {k : Nat} (hk : P.underlying k = some .string) {L : List (ByteArray × Value)} (hL : L.Pairwise fun p q => (strK hk).lt p.1 q.1 = true) {ss : List (List UInt8)} (hp : ss.Perm (strKeys (entD (strK hk) L))) : (ss.mergeSort fun x y => decide (x ≤ y)) = L.map fun p => p.1.data.toList := by
  have e : strKeys (entD (strK hk) L) = L.map fun p => p.1.data.toList := by simp [strKeys, entD, strK, strOf, Function.comp_def]
  rw [e] at hp
  have h1 := mergeSort_of_perm hp
  unfold leB at h1
  rw [h1]
  refine List.mergeSort_of_pairwise ?_
  rw [List.pairwise_map]
  refine hL.imp fun h => ?_
  rw [strK_lt] at h
  simpa using bytes_le _ _ h
end Go.Proofs.YtmifgnibalbgjaaGreat
/- Maps of things that have rows of their own in memory (of no program). -/
namespace Go.Proofs.YtmifgnibalbgjaaGreat
open Go.RowKit
set_option linter.unusedSectionVars false

/-! ### rising lists -/
section
variable {α β γ : Type} [DecidableEq α]
theorem kDel_map (f : β → γ) (x : α) : ∀ L : List (α × β), kDel x (L.map fun p => (p.1, f p.2)) = (kDel x L).map fun p => (p.1, f p.2) := by
  intro L
  simp only [kDel, List.filter_map, Function.comp_def]
theorem kIns_map (lt : α → α → Bool) (f : β → γ) (x : α) (v : β) : ∀ L : List (α × β), kIns lt (x, f v) (L.map fun p => (p.1, f p.2)) = (kIns lt (x, v) L).map fun p => (p.1, f p.2)
  | [] => rfl
  | y :: r => by
    by_cases h : lt x y.1 = true
    · simp [kIns, h]
    · simp [kIns, h, kIns_map lt f x v r]
theorem kPut_map (lt : α → α → Bool) (f : β → γ) (x : α) (v : β) (L : List (α × β)) : kPut lt x (f v) (L.map fun p => (p.1, f p.2)) = (kPut lt x v L).map fun p => (p.1, f p.2) := by
  unfold kPut
  rw [kDel_map, kIns_map]
theorem kGet_map (f : β → γ) (x : α) : ∀ L : List (α × β), kGet x (L.map fun p => (p.1, f p.2)) = (kGet x L).map f := by
  intro L
  simp only [kGet, List.find?_map, Function.comp_def, Option.map_map]
theorem kGet_mem {x : α} {v : β} {L : List (α × β)} (h : kGet x L = some v) : (x, v) ∈ L := by
  unfold kGet at h
  obtain ⟨p, hp, rfl⟩ := Option.map_eq_some_iff.1 h
  have h1 := List.find?_some hp
  simp only [decide_eq_true_eq] at h1
  subst h1
  exact List.mem_of_find?_eq_some hp
theorem kGet_none {x : α} {L : List (α × β)} (h : kGet x L = none) : ∀ p ∈ L, p.1 ≠ x := by
  intro p hp e
  simp only [kGet, Option.map_eq_none_iff, List.find?_eq_none] at h
  exact h p hp (by simp [e])
theorem kDel_none {x : α} {L : List (α × β)} (h : kGet x L = none) : kDel x L = L := by
  unfold kDel
  rw [List.filter_eq_self]
  intro p hp
  simp [kGet_none h p hp]
/-- what stands around a key. -/
theorem kGet_split {lt : α → α → Bool} {x : α} {v : β} {L : List (α × β)} (hL : L.Pairwise fun p q => lt p.1 q.1 = true) (h : kGet x L = some v) :
    ∃ A B, L = A ++ (x, v) :: B ∧ (∀ p ∈ A, lt p.1 x = true) ∧ (∀ p ∈ B, lt x p.1 = true) := by
  obtain ⟨A, B, rfl⟩ := List.append_of_mem (kGet_mem h)
  rw [List.pairwise_append] at hL
  obtain ⟨h1, h2, h3⟩ := hL
  rw [List.pairwise_cons] at h2
  exact ⟨A, B, rfl, fun p hp => h3 p hp _ (List.mem_cons_self ..), fun p hp => h2.1 p hp⟩
/-- an order of keys. -/
structure Ord (lt : α → α → Bool) : Prop where
  irr : ∀ x, lt x x = false
  trans : ∀ {x y z}, lt x y = true → lt y z = true → lt x z = true
  total : ∀ {x y}, x ≠ y → lt x y = true ∨ lt y x = true
theorem Ord.asymm {lt : α → α → Bool} (O : Ord lt) {x y : α} (h : lt x y = true) : lt y x = false := by
  cases h' : lt y x
  · rfl
  · have := O.trans h h'; rw [O.irr] at this; cases this
theorem Ord.ne {lt : α → α → Bool} (O : Ord lt) {x y : α} (h : lt x y = true) : x ≠ y := by
  rintro rfl; rw [O.irr] at h; cases h
theorem kDel_split {lt : α → α → Bool} (O : Ord lt) {x : α} {v : β} {A B : List (α × β)} (hA : ∀ p ∈ A, lt p.1 x = true) (hB : ∀ p ∈ B, lt x p.1 = true) : kDel x (A ++ (x, v) :: B) = A ++ B := by
  unfold kDel
  rw [List.filter_append, List.filter_cons_of_neg (by simp)]
  congr 1
  · rw [List.filter_eq_self]; intro p hp; simp [O.ne (hA p hp)]
  · rw [List.filter_eq_self]; intro p hp; simp [(O.ne (hB p hp)).symm]
theorem kIns_split {lt : α → α → Bool} (O : Ord lt) {x : α} {v : β} : ∀ {A B : List (α × β)}, (∀ p ∈ A, lt p.1 x = true) → (∀ p ∈ B, lt x p.1 = true) → kIns lt (x, v) (A ++ B) = A ++ (x, v) :: B
  | [], [], _, _ => rfl
  | [], y :: r, _, hB => by simp [kIns, hB y (List.mem_cons_self ..)]
  | y :: A, B, hA, hB => by
    have h1 := O.asymm (hA y (List.mem_cons_self ..))
    simp only [List.cons_append, kIns, h1, Bool.false_eq_true, if_false]
    rw [kIns_split O (fun p hp => hA p (List.mem_cons_of_mem _ hp)) hB]
theorem kPut_split {lt : α → α → Bool} (O : Ord lt) {x : α} {v v' : β} {A B : List (α × β)} (hA : ∀ p ∈ A, lt p.1 x = true) (hB : ∀ p ∈ B, lt x p.1 = true) : kPut lt x v' (A ++ (x, v) :: B) = A ++ (x, v') :: B := by
  unfold kPut
  rw [kDel_split O hA hB, kIns_split O hA hB]
/-- where a new key comes. -/
theorem kNew_split {lt : α → α → Bool} (O : Ord lt) {x : α} : ∀ {L : List (α × β)}, L.Pairwise (fun p q => lt p.1 q.1 = true) → kGet x L = none → ∃ A B, L = A ++ B ∧ (∀ p ∈ A, lt p.1 x = true) ∧ (∀ p ∈ B, lt x p.1 = true) ∧ ∀ v, kPut lt x v L = A ++ (x, v) :: B
  | [], _, _ => ⟨[], [], rfl, by simp, by simp, fun v => rfl⟩
  | y :: r, hL, h => by
    have hy : y.1 ≠ x := kGet_none h y (List.mem_cons_self ..)
    have hr : kGet x r = none := by
      unfold kGet at h ⊢
      rwa [List.find?_cons_of_neg (by simp [hy])] at h
    rw [List.pairwise_cons] at hL
    rcases O.total hy with h1 | h1
    · obtain ⟨A, B, rfl, hA, hB, hP⟩ := kNew_split O hL.2 hr
      refine ⟨y :: A, B, rfl, ?_, hB, fun v => ?_⟩
      · intro p hp
        rcases List.mem_cons.1 hp with rfl | hp
        · exact h1
        · exact hA p hp
      · unfold kPut
        rw [kDel_none h, List.cons_append, kIns, if_neg (by simp [O.asymm h1])]
        rw [kIns_split O hA hB]
    · refine ⟨[], y :: r, rfl, by simp, ?_, fun v => ?_⟩
      · intro p hp
        rcases List.mem_cons.1 hp with rfl | hp
        · exact h1
        · exact O.trans h1 (hL.1 p hp)
      · unfold kPut
        rw [kDel_none h, kIns, if_pos h1]; rfl
theorem kRise_put {lt : α → α → Bool} (O : Ord lt) {x : α} {v : β} {L : List (α × β)} (hL : L.Pairwise fun p q => lt p.1 q.1 = true) : (kPut lt x v L).Pairwise fun p q => lt p.1 q.1 = true := by
  cases h : kGet x L with
  | some u =>
    obtain ⟨A, B, rfl, hA, hB⟩ := kGet_split hL h
    rw [kPut_split O hA hB]
    rw [List.pairwise_append, List.pairwise_cons] at hL ⊢
    refine ⟨hL.1, ⟨fun p hp => hB p hp, hL.2.1.2⟩, fun p hp q hq => ?_⟩
    rcases List.mem_cons.1 hq with rfl | hq
    · exact hA p hp
    · exact hL.2.2 p hp q (List.mem_cons_of_mem _ hq)
  | none =>
    obtain ⟨A, B, rfl, hA, hB, hP⟩ := kNew_split O hL h
    rw [hP]
    rw [List.pairwise_append] at hL ⊢
    rw [List.pairwise_cons]
    refine ⟨hL.1, ⟨fun p hp => hB p hp, hL.2.1⟩, fun p hp q hq => ?_⟩
    rcases List.mem_cons.1 hq with rfl | hq
    · exact hA p hp
    · exact hL.2.2 p hp q hq
theorem kRise_del {lt : α → α → Bool} {x : α} {L : List (α × β)} (hL : L.Pairwise fun p q => lt p.1 q.1 = true) : (kDel x L).Pairwise fun p q => lt p.1 q.1 = true := hL.filter _
theorem kGet_put {lt : α → α → Bool} (x y : α) (v : β) (L : List (α × β)) : kGet y (kPut lt x v L) = if y = x then some v else kGet y L := by
  have h1 : ∀ L : List (α × β), (∀ p ∈ L, p.1 ≠ x) → kGet y (kIns lt (x, v) L) = if y = x then some v else kGet y L := by
    intro L
    induction L with
    | nil => intro _; by_cases e : y = x <;> simp [kIns, kGet, e, eq_comm]
    | cons z r ih =>
      intro hz
      have hzx := hz z (List.mem_cons_self ..)
      have ih := ih fun p hp => hz p (List.mem_cons_of_mem _ hp)
      unfold kIns
      split
      · by_cases e : y = x
        · subst e; simp [kGet]
        · rw [if_neg e]
          unfold kGet
          rw [List.find?_cons_of_neg (by simp; exact fun h => e h.symm)]
      · unfold kGet at ih ⊢
        by_cases e2 : z.1 = y
        · have hyx : y ≠ x := fun h => hzx (e2.trans h)
          rw [List.find?_cons_of_pos (by simpa using e2), List.find?_cons_of_pos (by simpa using e2), if_neg hyx]
        · rw [List.find?_cons_of_neg (by simpa using e2), List.find?_cons_of_neg (by simpa using e2)]
          exact ih
  unfold kPut
  rw [h1 _ (by intro p hp; simp [kDel] at hp; exact hp.2)]
  by_cases e : y = x
  · simp [e]
  · simp only [if_neg e]
    unfold kGet kDel
    rw [List.find?_filter]
    congr 2
    funext p
    by_cases e3 : p.1 = y
    · simp [e3, e]
    · simp [e3]
theorem kGet_del (x y : α) (L : List (α × β)) : kGet y (kDel x L) = if y = x then none else kGet y L := by
  unfold kGet kDel
  rw [List.find?_filter]
  by_cases e : y = x
  · subst e
    simp
  · simp only [if_neg e]
    congr 2
    funext p
    by_cases e3 : p.1 = y
    · simp [e3, e]
    · simp [e3]
end
theorem ordI {P : Program} {k : Nat} (hk : P.underlying k = some (.int .i64)) : Ord (intK hk).lt where
  irr x := by simp [intK_lt]
  trans h1 h2 := by simp only [intK_lt, decide_eq_true_eq] at *; omega
  total h := by simp only [intK_lt, decide_eq_true_eq]; omega
theorem ordS {P : Program} {k : Nat} (hk : P.underlying k = some .string) : Ord (strK hk).lt where
  irr x := by simp [strK_lt, WideAt.bytes_irrefl]
  trans h1 h2 := WideShapes.bytes_trans _ _ _ h1 h2
  total {x y} h := WideAt.bytes_total _ _ fun e => h (ByteArray.ext (Array.toList_inj.1 e))
end Go.Proofs.YtmifgnibalbgjaaGreat
/- Maps of things that have rows of their own in memory (of no program). -/
namespace Go.Proofs.YtmifgnibalbgjaaGreat
open Go.RowKit
set_option linter.unusedSectionVars false
section
variable {P : Program} {k : Nat} {α ε : Type} [DecidableEq α]
theorem stables_map {f : α × ε → Asn} (h : ∀ p, Stable (f p)) (E : List (α × ε)) : Stables (E.map f) := ⟨fun A hA => by
  obtain ⟨p, _, rfl⟩ := List.mem_map.1 hA
  exact h p⟩
/-- The map, and the row of each element. -/
def krL (K : KeyE P k α) (enc : ε → Value) (row : ε → Asn) (b : Nat) (E : List (α × ε)) : List Asn := KMapA K b (E.map fun p => (p.1, enc p.2)) :: E.map fun p => row p.2
def KRowsA (K : KeyE P k α) (enc : ε → Value) (row : ε → Asn) (b : Nat) (E : List (α × ε)) : Asn := All (krL K enc row b E)
variable {K : KeyE P k α} {enc : ε → Value} {row : ε → Asn} {b : Nat} {E : List (α × ε)}
instance krStables [h : ∀ e, Stable (row e)] : Stables (krL K enc row b E) :=
  have : Stables (E.map fun p => row p.2) := stables_map (fun p => h p.2) E
  inferInstanceAs (Stables (_ :: _))
instance [h : ∀ e, Stable (row e)] : Stable (KRowsA K enc row b E) := inferInstanceAs (Stable (All _))
/-- several things as one, and back. -/
theorem Mem.pack {w0 w : World} {D0 : List Nat} (l m : List Asn) {r : List Asn} (h : Mem w0 D0 w (l ++ (m ++ r))) : Mem w0 D0 w (l ++ All m :: r) := by
  obtain ⟨D, hA, hD⟩ := h.out
  obtain ⟨D1, D2, rfl, hd, h1, h2⟩ := all_append l (m ++ r) hA
  obtain ⟨E1, E2, rfl, he, h3, h4⟩ := all_append m r h2
  exact ⟨D1 ++ (E1 ++ E2), all_mk h1 ⟨E1, E2, rfl, he, h3, h4⟩ hd, hD⟩
theorem Mem.unpack {w0 w : World} {D0 : List Nat} (l m : List Asn) {r : List Asn} (h : Mem w0 D0 w (l ++ All m :: r)) : Mem w0 D0 w (l ++ (m ++ r)) := by
  obtain ⟨D, hA, hD⟩ := h.out
  obtain ⟨D1, D2, rfl, hd, h1, E1, E2, rfl, he, h3, h4⟩ := all_append l (All m :: r) hA
  exact ⟨D1 ++ (E1 ++ E2), all_mk h1 (all_mk h3 h4 he) hd, hD⟩
theorem Mem.toMid {w0 w : World} {D0 : List Nat} : ∀ (pre l : List Asn) {A : Asn} {r : List Asn}, Mem w0 D0 w (pre ++ A :: (l ++ r)) → Mem w0 D0 w (pre ++ (l ++ A :: r))
  | _, [], _, _, h => h
  | pre, B :: l, A, r, h => by
    have h1 := Mem.swap pre (A := A) (B := B) (r := l ++ r) h
    have h2 := Mem.toMid (pre ++ [B]) l (A := A) (r := r) (by simpa using h1)
    simpa using h2
section
variable [hrow : ∀ e, Stable (row e)] {w0 w : World} {D0 : List Nat} (l : List Asn) {r : List Asn} [sl : Stables l] [sr : Stables r] {t el : Nat}
theorem Mem.krMap (h : Mem w0 D0 w (l ++ KRowsA K enc row b E :: r)) : ∃ D, KMapA K b (E.map fun p => (p.1, enc p.2)) w D := by
  have := Mem.unpack l (krL K enc row b E) h
  unfold krL at this
  have s1 : Stables (E.map fun p => row p.2) := stables_map (fun p => hrow p.2) E
  exact Mem.get l (A := KMapA K b _) (r := (E.map fun p => row p.2) ++ r) this
/-- look-up. -/
theorem Mem.krLook (h : Mem w0 D0 w (l ++ KRowsA K enc row b E :: r)) (ht : P.underlying t = some (.map k el)) {z : Value} (hz : (zeroValue el).run P w = .ok z w) {x : α} (hx : K.ok x) :
    (Instr.lookup t (.map (some b)) (K.val x) true).run P w = .ok (.tuple #[((kGet x E).map enc).getD z, .bool (kGet x E).isSome]) w ∧ (Instr.lookup t (.map (some b)) (K.val x) false).run P w = .ok (((kGet x E).map enc).getD z) w := by
  have := Mem.unpack l (krL K enc row b E) h
  unfold krL at this
  have s1 : Stables (E.map fun p => row p.2) := stables_map (fun p => hrow p.2) E
  have h1 := Mem.kLook l (r := (E.map fun p => row p.2) ++ r) this ht hz hx
  rw [kGet_map] at h1
  simpa using h1
theorem Mem.krRise (h : Mem w0 D0 w (l ++ KRowsA K enc row b E :: r)) : E.Pairwise fun p q => K.lt p.1 q.1 = true := by
  obtain ⟨D, hD⟩ := Mem.krMap l h
  have := hD.rise
  rwa [List.pairwise_map] at this
/-- An element's own row, beside the map and the others. -/
theorem Mem.krOpen (h : Mem w0 D0 w (l ++ KRowsA K enc row b E :: r)) {x : α} {e : ε} (hx : kGet x E = some e) :
    ∃ A B, E = A ++ (x, e) :: B ∧ (∀ p ∈ A, K.lt p.1 x = true) ∧ (∀ p ∈ B, K.lt x p.1 = true) ∧
      Mem w0 D0 w ((l ++ (KMapA K b ((A ++ (x, e) :: B).map fun p => (p.1, enc p.2)) :: A.map fun p => row p.2)) ++ row e :: ((B.map fun p => row p.2) ++ r)) := by
  obtain ⟨A, B, rfl, hA, hB⟩ := kGet_split (Mem.krRise l h) hx
  refine ⟨A, B, rfl, hA, hB, ?_⟩
  have := Mem.unpack l (krL K enc row b (A ++ (x, e) :: B)) h
  unfold krL at this
  simpa using this
theorem Mem.krShut {A B : List (α × ε)} {x : α} {e : ε} (h : Mem w0 D0 w ((l ++ (KMapA K b ((A ++ (x, e) :: B).map fun p => (p.1, enc p.2)) :: A.map fun p => row p.2)) ++ row e :: ((B.map fun p => row p.2) ++ r))) :
    Mem w0 D0 w (l ++ KRowsA K enc row b (A ++ (x, e) :: B) :: r) := by
  refine Mem.pack l (krL K enc row b (A ++ (x, e) :: B)) ?_
  unfold krL
  simpa using h
/-- The element x is stored anew: its row has been turned. -/
theorem Mem.krTurn (O : Ord K.lt) (ht : P.underlying t = some (.map k el)) {A B : List (α × ε)} {x : α} {e e' : ε} (hx : K.ok x) (hA : ∀ p ∈ A, K.lt p.1 x = true) (hB : ∀ p ∈ B, K.lt x p.1 = true) (hn : (A ++ (x, e) :: B).length < maxLen)
    (h : Mem w0 D0 w ((l ++ (KMapA K b ((A ++ (x, e) :: B).map fun p => (p.1, enc p.2)) :: A.map fun p => row p.2)) ++ row e' :: ((B.map fun p => row p.2) ++ r))) :
    ∃ w', (Instr.mapUpdate t (.map (some b)) (K.val x) (enc e')).run P w = .ok () w' ∧ Mem w0 D0 w' (l ++ KRowsA K enc row b (A ++ (x, e') :: B) :: r) := by
  have sA : Stables (A.map fun p => row p.2) := stables_map (fun p => hrow p.2) A
  have sB : Stables (B.map fun p => row p.2) := stables_map (fun p => hrow p.2) B
  have h1 : Mem w0 D0 w (l ++ KMapA K b ((A ++ (x, e) :: B).map fun p => (p.1, enc p.2)) :: ((A.map fun p => row p.2) ++ row e' :: ((B.map fun p => row p.2) ++ r))) := by simpa using h
  obtain ⟨w', q1, q2⟩ := Mem.kStore l h1 ht hx (enc e') (by simpa using hn)
  refine ⟨w', q1, ?_⟩
  rw [kPut_map, kPut_split O hA hB] at q2
  refine Mem.krShut l ?_
  simpa using q2
/-- A new element, with a row. -/
theorem Mem.krNew (O : Ord K.lt) (ht : P.underlying t = some (.map k el)) {x : α} {e : ε} (hx : K.ok x) (hg : kGet x E = none) (hn : E.length < maxLen) (h : Mem w0 D0 w (row e :: (l ++ KRowsA K enc row b E :: r))) :
    ∃ w', (Instr.mapUpdate t (.map (some b)) (K.val x) (enc e)).run P w = .ok () w' ∧ Mem w0 D0 w' (l ++ KRowsA K enc row b (kPut K.lt x e E) :: r) := by
  have h0 := Mem.unpack (row e :: l) (krL K enc row b E) (r := r) h
  have hr := Mem.krRise (row e :: l) (r := r) h
  obtain ⟨A, B, rfl, hA, hB, hP⟩ := kNew_split O hr hg
  rw [hP]
  have sA : Stables (A.map fun p => row p.2) := stables_map (fun p => hrow p.2) A
  have sB : Stables (B.map fun p => row p.2) := stables_map (fun p => hrow p.2) B
  unfold krL at h0
  have h1 : Mem w0 D0 w ((row e :: l) ++ KMapA K b ((A ++ B).map fun p => (p.1, enc p.2)) :: ((A.map fun p => row p.2) ++ ((B.map fun p => row p.2) ++ r))) := by simpa using h0
  obtain ⟨w', q1, q2⟩ := Mem.kStore (row e :: l) h1 ht hx (enc e) (by simpa using hn)
  refine ⟨w', q1, ?_⟩
  rw [kPut_map, hP] at q2
  refine Mem.krShut l ?_
  exact Mem.toMid [] (l ++ (KMapA K b ((A ++ (x, e) :: B).map fun p => (p.1, enc p.2)) :: A.map fun p => row p.2)) (r := (B.map fun p => row p.2) ++ r) (A := row e) (by simpa using q2)
/-- An element goes. -/
theorem Mem.krDrop (O : Ord K.lt) (ht : P.underlying t = some (.map k el)) {x : α} (hx : K.ok x) (h : Mem w0 D0 w (l ++ KRowsA K enc row b E :: r)) (ty : Nat) :
    ∃ w', (Builtin.delete_ #[t, k] ty #[.map (some b), K.val x]).run P w = .ok (.tuple #[]) w' ∧ Mem w0 D0 w' (l ++ KRowsA K enc row b (kDel x E) :: r) := by
  have s1 : Stables (E.map fun p => row p.2) := stables_map (fun p => hrow p.2) E
  cases hg : kGet x E with
  | none =>
    have h1 := Mem.unpack l (krL K enc row b E) h
    unfold krL at h1
    obtain ⟨w', q1, q2⟩ := Mem.kDrop l (r := (E.map fun p => row p.2) ++ r) h1 ht hx ty
    refine ⟨w', q1, ?_⟩
    rw [kDel_map, kDel_none hg] at q2
    rw [kDel_none hg]
    exact Mem.pack l (krL K enc row b E) q2
  | some e =>
    obtain ⟨A, B, rfl, hA, hB, hM⟩ := Mem.krOpen l h hg
    have sA : Stables (A.map fun p => row p.2) := stables_map (fun p => hrow p.2) A
    have sB : Stables (B.map fun p => row p.2) := stables_map (fun p => hrow p.2) B
    have h1 := Mem.drop _ hM
    have h2 : Mem w0 D0 w (l ++ KMapA K b ((A ++ (x, e) :: B).map fun p => (p.1, enc p.2)) :: ((A.map fun p => row p.2) ++ ((B.map fun p => row p.2) ++ r))) := by simpa using h1
    obtain ⟨w', q1, q2⟩ := Mem.kDrop l h2 ht hx ty
    refine ⟨w', q1, ?_⟩
    rw [kDel_map, kDel_split O hA hB] at q2
    rw [kDel_split O hA hB]
    refine Mem.pack l (krL K enc row b (A ++ B)) ?_
    unfold krL
    simpa using q2
end
end
end Go.Proofs.YtmifgnibalbgjaaGreat
