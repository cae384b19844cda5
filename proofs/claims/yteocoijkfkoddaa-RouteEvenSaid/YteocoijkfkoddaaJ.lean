/- Splitting and joining: the plain facts, and what the search for a split answers. -/
import Derived.Test.YteocoijkfkoddaaF
import Derived.Test.YteocoijkfkoddaaShelf2
namespace Go.Proofs.Yteocoijkfkoddaa
open Go.RowKit

theorem leStr_refl (s : ByteArray) : leStr s s = true := by simp [leStr]
/-- Is the key a split? -/
def isSplit (ss : List ByteArray) (key : ByteArray) : Bool := decide (0 < ofL ss key) && decide (ss.getD (ofL ss key - 1) ByteArray.empty = key)
theorem lt_of_rises {ss : List ByteArray} (h : Rises ss) {i j : Nat} (hij : i < j) (hj : j < ss.length) : (ss.getD i ByteArray.empty).toList < (ss.getD j ByteArray.empty).toList := by
  have := h i j hij hj
  rw [leStr_iff, less_iff] at this
  simpa using this
theorem le_iff (s t : ByteArray) : leStr s t = true ↔ s.toList ≤ t.toList := by
  rw [leStr_iff, less_iff, Bool.not_eq_true', decide_eq_false_iff_not]; exact List.not_lt
theorem bs_index (ss : List ByteArray) (key : ByteArray) (h : Rises ss) (Sx : Nat → ByteArray) (h1 : ∀ j, j < ss.length → Sx j = ss.getD j ByteArray.empty) (h2 : ∀ j, ss.length ≤ j → Sx j = key) :
    Lib.bsGo (fun t => Op.bytesLess (Sx t).toList key.toList) ss.length 0 ss.length = if isSplit ss key then ofL ss key - 1 else ofL ss key := by
  obtain ⟨b1, b2, b3⟩ := ofL_bound ss key h
  have hi : ∀ t, ofL ss key ≤ t → Op.bytesLess (Sx t).toList key.toList = false := fun t ht => by
    rw [less_iff, decide_eq_false_iff_not]
    rcases Nat.lt_or_ge t ss.length with hl | hl
    · rw [h1 t hl]
      have := b3 t ht hl
      rw [leStr_iff, less_iff] at this
      exact Std.not_gt_of_lt (by simpa using this)
    · rw [h2 t hl]; exact Std.lt_irrefl
  have lo : ∀ t, t < ofL ss key → ss.getD t ByteArray.empty ≠ key → Op.bytesLess (Sx t).toList key.toList = true := fun t ht hne => by
    rw [less_iff, decide_eq_true_eq, h1 t (by omega)]
    exact Std.lt_of_le_of_ne ((le_iff _ _).1 (b2 t ht)) (fun e => hne (toList_inj e))
  cases hs : isSplit ss key with
  | true =>
    unfold isSplit at hs
    simp only [Bool.and_eq_true, decide_eq_true_eq] at hs
    obtain ⟨hp, hk⟩ := hs
    refine Lib.bsGo_spec _ (ofL ss key - 1) (fun t ht => ?_) (fun t ht => ?_) _ _ _ (Nat.le_refl _) (Nat.zero_le _) (by omega)
    · refine lo t (by omega) fun e => ?_
      have := lt_of_rises h ht (by omega)
      rw [e, hk] at this
      exact Std.lt_irrefl this
    · by_cases e : t = ofL ss key - 1
      · subst e
        simp only [less_iff, decide_eq_false_iff_not]
        rw [h1 _ (by omega), hk]; exact Std.lt_irrefl
      · exact hi t (by omega)
  | false =>
    refine Lib.bsGo_spec _ (ofL ss key) (fun t ht => ?_) hi _ _ _ (Nat.le_refl _) (Nat.zero_le _) b1
    refine lo t ht fun e => ?_
    unfold isSplit at hs
    by_cases e2 : t = ofL ss key - 1
    · subst e2; simp only [List.getD] at e hs; simp [e, show 0 < ofL ss key by omega] at hs
    · have h3 := lt_of_rises h (show t < ofL ss key - 1 by omega) (by omega)
      rw [e] at h3
      have h4 := (le_iff _ _).1 (b2 (ofL ss key - 1) (by omega))
      exact List.not_lt.2 h4 h3

theorem bs_any (a : Option Addr) (n c : Nat) (ss : List ByteArray) (key : ByteArray) (w : World) (hs : StrsAt w a n ss) (hn : n ≤ 100) (h : Rises ss) :
    Calls Try.prog 27 #[.slice a n c, .string key] w fun e w' => e = .returned (.tuple #[.int .i64 ((if isSplit ss key then ofL ss key - 1 else ofL ss key : Nat) : Int), .bool (isSplit ss key)]) ∧ ∃ q, w' = w.drewN q := by
  obtain rfl : n = ss.length := hs.1
  by_cases h0 : ss.length = 0
  · obtain rfl : ss = [] := List.length_eq_zero_iff.1 h0
    exact (Try.slices_BinarySearch_string_empty a c key w).mono fun e w' ⟨he, hw⟩ => ⟨he, 0, hw⟩
  · obtain ⟨b, off, rfl, _⟩ := hs.2 0 (by omega)
    have hi := bs_index ss key h (fun j => if j < ss.length then ss.getD j ByteArray.empty else key) (fun j hj => if_pos hj) (fun j hj => if_neg (by omega))
    have hc := Try.slices_BinarySearch_string b off ss.length c (fun j => if j < ss.length then ss.getD j ByteArray.empty else key) key w (by omega) fun j hj => by
      obtain ⟨b', off', e, hc⟩ := hs.2 j hj
      simp only [Option.some.injEq, Addr.mk.injEq, and_true] at e
      obtain ⟨rfl, rfl⟩ := e
      rw [hc, if_pos hj]
    rw [hi] at hc
    refine hc.mono fun e w' ⟨he, hw⟩ => ⟨?_, hw⟩
    rw [he]
    congr 4
    obtain ⟨b1, b2, b3⟩ := ofL_bound ss key h
    cases hsp : isSplit ss key with
    | true =>
      unfold isSplit at hsp
      simp only [Bool.and_eq_true, decide_eq_true_eq] at hsp
      simp only [if_true]
      refine congrArg (fun b => [Value.bool b]) (decide_eq_true ?_)
      rw [if_pos (by omega)]
      exact ⟨by omega, hsp.2⟩
    | false =>
      simp only [Bool.false_eq_true, if_false]
      refine congrArg (fun b => [Value.bool b]) (decide_eq_false ?_)
      rintro ⟨h1, h2⟩
      rw [if_pos h1] at h2
      have := b3 _ (Nat.le_refl _) h1
      rw [h2, leStr_refl] at this
      exact absurd this (by decide)

/-- The splits with another one. -/
def insL (ss : List ByteArray) (key : ByteArray) : List ByteArray := ss.take (ofL ss key) ++ key :: ss.drop (ofL ss key)
theorem insL_len (ss : List ByteArray) (key : ByteArray) : (insL ss key).length = ss.length + 1 := by
  have : ofL ss key ≤ ss.length := List.countP_le_length
  simp [insL]; omega
theorem ofL_insL (ss : List ByteArray) (key other : ByteArray) : ofL (insL ss key) other = ofL ss other + if leStr key other then 1 else 0 := by
  unfold insL
  conv => rhs; rw [ofL, ← List.take_append_drop (ofL ss key) ss, List.countP_append]
  rw [ofL, List.countP_append, List.countP_cons]
  omega
theorem insL_back (ss : List ByteArray) (key : ByteArray) : (insL ss key).take (ofL ss key) ++ (insL ss key).drop (ofL ss key + 1) = ss := by
  have hk : ofL ss key ≤ ss.length := List.countP_le_length
  have hl : (ss.take (ofL ss key)).length = ofL ss key := by rw [List.length_take]; omega
  unfold insL
  generalize ofL ss key = k at *
  have e1 : (ss.take k ++ key :: ss.drop k).take k = ss.take k := by
    rw [List.take_append_of_le_length (by omega), List.take_of_length_le (by omega)]
  have e2 : (ss.take k ++ key :: ss.drop k).drop (k + 1) = ss.drop k := by
    rw [List.drop_append, hl, List.drop_eq_nil_of_le (by omega), List.nil_append, show k + 1 - k = 1 by omega]; rfl
  rw [e1, e2, List.take_append_drop]
end Go.Proofs.Yteocoijkfkoddaa
