/- The document's Ended, is, Right. -/
import Derived.Test.YtbgabdofnmijnaaT
namespace Go.Proofs.Ytbgabdofnmijnaa
open Go.RowKit
def overK (m : Mk) : Bool := decide (2 < m.kind)
def endedR (l : List Mk) (tx : Int) (k : Nat) : Bool := (l.take k).any fun m => m.tx == tx && overK m
def isR (l : List Mk) (kind tx : Int) (k : Nat) : Bool := (l.take k).any fun m => m.tx == tx && m.kind == kind
theorem takeAny_true {l : List Mk} {p : Mk → Bool} {k : Nat} (i : Nat) (hi : i < l.length) (hk : i < k) (h : p l[i] = true) : (l.take k).any p = true :=
  List.any_eq_true.2 ⟨l[i], List.mem_iff_getElem.2 ⟨i, by rw [List.length_take]; omega, by rw [List.getElem_take]⟩, h⟩
theorem takeAny_false {l : List Mk} {p : Mk → Bool} {k : Nat} (h : ∀ i (h : i < l.length), i < k → p l[i] = false) : (l.take k).any p = false := by
  rw [List.any_eq_false]
  intro m hm
  obtain ⟨i, hi, rfl⟩ := List.mem_iff_getElem.1 hm
  rw [List.length_take] at hi
  rw [List.getElem_take, h i (by omega) (by omega)]; simp
set_option maxRecDepth 100000 in
set_option maxHeartbeats 2000000 in
theorem ended_any (a : Option Addr) (n c : Nat) (l : List Mk) (tx : Int) (k : Nat) (w : World) (hr : MksAt w a n l) (hn : n ≤ 1000) (hnc : n ≤ c) (hk : k ≤ n) :
    Calls Try.prog 28 #[.slice a n c, .int .i64 tx, .int .i64 k] w fun e w' => e = .returned (.bool (endedR l tx k)) ∧ Below w.heap.size w w' := by
  have HL := Lib.hid hr.1
  have HR := Lib.hid hr
  have HT : Hid (∀ i (hi : i < l.length), i < k → (l[i].tx == tx && overK l[i]) = true → endedR l tx k = true) := Lib.hid fun i hi hk h => takeAny_true i hi hk h
  have HF : Hid ((∀ i (hi : i < l.length), i < k → (l[i].tx == tx && overK l[i]) = false) → endedR l tx k = false) := Lib.hid fun h => takeAny_false h
  clear hr
  generalize hrb : endedR l tx k = rb at *
  clear hrb
  have hkc : k ≤ c := by omega
  go_enter Try.func28, Try.ntmps28
  rcases a with _ | ⟨ba, oa, sa⟩
  · have hn0 : n = 0 := by
      rcases Nat.eq_zero_or_pos n with h | h
      · exact h
      · obtain ⟨b, off, h', _⟩ := HR.out.2 0 (by rw [← HL.out]; exact h)
        cases h'
    have hk0 : k = 0 := by omega
    subst hn0 hk0
    have HF2 := Lib.hid (HF.out fun i hi h => by omega)
    go_wp2_with fail
    go_loopw [13] (fun j wr => j = .int .i64 0 ∧ wr = w) (fun _ _ => 0)
    case atStart => exact ⟨rfl, rfl⟩
    case round =>
      obtain ⟨rfl, rfl⟩ := hrel
      go_wp2_with fail
      go_ret
      exact ⟨by rw [HF2.out]; rfl, Below.refl _ _⟩
  · go_wp2_with fail
    go_loopw [13] (fun j wr => ∃ q : Nat, q ≤ k ∧ j = .int .i64 q ∧ Hid ((∀ i (hi : i < l.length), i < q → (l[i].tx == tx && overK l[i]) = false) ∧ Below w.heap.size w wr)) (fun j _ => k - (intOf j).toNat)
    case atStart => exact ⟨0, Nat.zero_le _, rfl, Lib.hid ⟨fun i h hi => by omega, Below.refl _ _⟩⟩
    case round =>
      obtain ⟨q, hq, rfl, HS⟩ := hrel
      have HALL := Lib.hid HS.out.1
      have HB := Lib.hid HS.out.2
      clear HS
      by_cases hlt : q < k
      · have hlt' : q < l.length := by rw [← HL.out]; omega
        obtain ⟨g, off, he, hcA, hcB, hcD⟩ := (HR.out.below HB.out).at q hlt'
        simp only [Option.some.injEq] at he
        obtain ⟨rfl, rfl, rfl⟩ : ba = g ∧ oa = off ∧ sa = none := by simpa using he
        clear he
        have HNX := Lib.hid fun (h : (l[q].tx == tx && overK l[q]) = false) => (show ∀ i (hi : i < l.length), i < q + 1 → (l[i].tx == tx && overK l[i]) = false from fun i hi hik => by
          by_cases e : i = q
          · subst e; exact h
          · exact HALL.out i hi (by omega))
        have HY := Lib.hid fun h => HT.out q hlt' hlt h
        have M1 := Lib.hid (((Mem.nil w).below HB.out).block #[.int .i64 l[q].kind, .int .i64 l[q].tx, .string l[q].key] 36)
        clear HALL HB
        generalize l[q] = x at *
        obtain ⟨xk, xt, xy⟩ := x
        unfold overK at HNX HY
        simp only at hcA hcB hcD M1 HNX HY
        obtain ⟨k0, k1, k2⟩ := box_cells M1.out
        have HBE := Lib.hid M1.out.bel
        clear M1
        by_cases ht : xt = tx
        · have ht' : (xt == tx) = true := by simpa using ht
          rw [ht'] at HNX HY
          clear ht
          by_cases h2 : 2 < xk
          · have HX := Lib.hid (HY.out (by simp [h2]))
            clear HNX HY
            go_wp2_with fail
            go_ret
            exact ⟨by rw [HX.out]; rfl, HBE.out⟩
          · have HX := Lib.hid (And.intro (HNX.out (by simp [h2])) HBE.out)
            clear HNX HY
            go_wp2_with fail
            go_roundw
            case rel => exact ⟨q + 1, by omega, by go_num, HX⟩
            case measure => simp [intOf]; omega
        · have ht' : (xt == tx) = false := by simpa using ht
          have HX := Lib.hid (And.intro (HNX.out (by rw [ht']; rfl)) HBE.out)
          clear HNX HY ht
          go_wp2_with fail
          go_roundw
          case rel => exact ⟨q + 1, by omega, by go_num, HX⟩
          case measure => simp [intOf]; omega
      · obtain rfl : q = k := by omega
        have HX := Lib.hid (And.intro (HF.out HALL.out) HB.out)
        clear HALL HB HF
        go_wp2_with fail
        go_ret
        exact ⟨by rw [HX.out.1]; rfl, HX.out.2⟩
set_option maxRecDepth 100000 in
set_option maxHeartbeats 2000000 in
theorem is_any (a : Option Addr) (n c : Nat) (l : List Mk) (kind tx : Int) (k : Nat) (w : World) (hr : MksAt w a n l) (hn : n ≤ 1000) (hnc : n ≤ c) (hk : k ≤ n) :
    Calls Try.prog 56 #[.slice a n c, .int .i64 kind, .int .i64 tx, .int .i64 k] w fun e w' => e = .returned (.bool (isR l kind tx k)) ∧ Below w.heap.size w w' := by
  have HL := Lib.hid hr.1
  have HR := Lib.hid hr
  have HT : Hid (∀ i (hi : i < l.length), i < k → (l[i].tx == tx && l[i].kind == kind) = true → isR l kind tx k = true) := Lib.hid fun i hi hk h => takeAny_true i hi hk h
  have HF : Hid ((∀ i (hi : i < l.length), i < k → (l[i].tx == tx && l[i].kind == kind) = false) → isR l kind tx k = false) := Lib.hid fun h => takeAny_false h
  clear hr
  generalize hrb : isR l kind tx k = rb at *
  clear hrb
  have hkc : k ≤ c := by omega
  go_enter Try.func56, Try.ntmps56
  rcases a with _ | ⟨ba, oa, sa⟩
  · have hn0 : n = 0 := by
      rcases Nat.eq_zero_or_pos n with h | h
      · exact h
      · obtain ⟨b, off, h', _⟩ := HR.out.2 0 (by rw [← HL.out]; exact h)
        cases h'
    have hk0 : k = 0 := by omega
    subst hn0 hk0
    have HF2 := Lib.hid (HF.out fun i hi h => by omega)
    go_wp2_with fail
    go_loopw [15] (fun j wr => j = .int .i64 0 ∧ wr = w) (fun _ _ => 0)
    case atStart => exact ⟨rfl, rfl⟩
    case round =>
      obtain ⟨rfl, rfl⟩ := hrel
      go_wp2_with fail
      go_ret
      exact ⟨by rw [HF2.out]; rfl, Below.refl _ _⟩
  · go_wp2_with fail
    go_loopw [15] (fun j wr => ∃ q : Nat, q ≤ k ∧ j = .int .i64 q ∧ Hid ((∀ i (hi : i < l.length), i < q → (l[i].tx == tx && l[i].kind == kind) = false) ∧ Below w.heap.size w wr)) (fun j _ => k - (intOf j).toNat)
    case atStart => exact ⟨0, Nat.zero_le _, rfl, Lib.hid ⟨fun i h hi => by omega, Below.refl _ _⟩⟩
    case round =>
      obtain ⟨q, hq, rfl, HS⟩ := hrel
      have HALL := Lib.hid HS.out.1
      have HB := Lib.hid HS.out.2
      clear HS
      by_cases hlt : q < k
      · have hlt' : q < l.length := by rw [← HL.out]; omega
        obtain ⟨g, off, he, hcA, hcB, hcD⟩ := (HR.out.below HB.out).at q hlt'
        simp only [Option.some.injEq] at he
        obtain ⟨rfl, rfl, rfl⟩ : ba = g ∧ oa = off ∧ sa = none := by simpa using he
        clear he
        have HNX := Lib.hid fun (h : (l[q].tx == tx && l[q].kind == kind) = false) => (show ∀ i (hi : i < l.length), i < q + 1 → (l[i].tx == tx && l[i].kind == kind) = false from fun i hi hik => by
          by_cases e : i = q
          · subst e; exact h
          · exact HALL.out i hi (by omega))
        have HY := Lib.hid fun h => HT.out q hlt' hlt h
        have M1 := Lib.hid (((Mem.nil w).below HB.out).block #[.int .i64 l[q].kind, .int .i64 l[q].tx, .string l[q].key] 36)
        clear HALL HB
        generalize l[q] = x at *
        obtain ⟨xk, xt, xy⟩ := x
        simp only at hcA hcB hcD M1 HNX HY
        obtain ⟨k0, k1, k2⟩ := box_cells M1.out
        have HBE := Lib.hid M1.out.bel
        clear M1
        by_cases ht : xt = tx
        · have ht' : (xt == tx) = true := by simpa using ht
          rw [ht'] at HNX HY
          clear ht
          by_cases h2 : xk = kind
          · have h2' : (xk == kind) = true := by simpa using h2
            have HX := Lib.hid (HY.out (by rw [h2']; rfl))
            clear HNX HY h2
            go_wp2_with fail
            go_ret
            exact ⟨by rw [HX.out]; rfl, HBE.out⟩
          · have h2' : (xk == kind) = false := by simpa using h2
            have HX := Lib.hid (And.intro (HNX.out (by rw [h2']; rfl)) HBE.out)
            clear HNX HY h2
            go_wp2_with fail
            go_roundw
            case rel => exact ⟨q + 1, by omega, by go_num, HX⟩
            case measure => simp [intOf]; omega
        · have ht' : (xt == tx) = false := by simpa using ht
          have HX := Lib.hid (And.intro (HNX.out (by rw [ht']; rfl)) HBE.out)
          clear HNX HY ht
          go_wp2_with fail
          go_roundw
          case rel => exact ⟨q + 1, by omega, by go_num, HX⟩
          case measure => simp [intOf]; omega
      · obtain rfl : q = k := by omega
        have HX := Lib.hid (And.intro (HF.out HALL.out) HB.out)
        clear HALL HB HF
        go_wp2_with fail
        go_ret
        exact ⟨by rw [HX.out.1]; rfl, HX.out.2⟩
end Go.Proofs.Ytbgabdofnmijnaa
