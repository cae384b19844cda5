/- Which shard has a key: the program's search, and the document's count. -/
import Derived.Test.YtmifgnibalbgjaaDoorRB
namespace Go.Proofs.YtmifgnibalbgjaaDoor
open Go.RowKit

/-- How many splits aren't greater. -/
def ofL (ss : List ByteArray) (key : ByteArray) : Nat := ss.countP fun s => leStr s key

set_option maxHeartbeats 400000 in
theorem refOf_any (a : Option Addr) (n c : Nat) (ss : List ByteArray) (key : ByteArray) (w : World) (hn : n ≤ maxLen) (h : StrsAt w a n ss) :
    Calls Tryd.prog 35 #[.slice a n c, .string key] w fun e w' => e = .returned (.int .i64 (ofL ss key)) ∧ w = w' := by
  unfold maxLen at hn
  obtain ⟨hl, hc⟩ := h
  have HL : Hid (n = ss.length) := Lib.hid hl
  clear hl
  have HC := Lib.hid hc
  clear hc
  go_enter Tryd.func35, Tryd.ntmps35
  go_wp2
  go_loop [5, 7, 10] (fun m _ i => ∃ k q : Nat, k ≤ n ∧ q ≤ k ∧ Hid (q = ofL (ss.take k) key) ∧ i = .int .i64 k ∧ m = .int .i64 q) (fun _ _ i => n - (intOf i).toNat)
  case atStart => exact ⟨0, 0, Nat.zero_le _, Nat.zero_le _, Lib.hid rfl, rfl, rfl⟩
  case round =>
    obtain ⟨k, q, hk, hq, hall, rfl, rfl⟩ := hrel
    by_cases hlt : k < n
    · obtain ⟨b, off, rfl, hcell⟩ := HC.out k hlt
      have hts : Hid (ofL (ss.take (k + 1)) key = ofL (ss.take k) key + if leStr (ss.getD k ByteArray.empty) key then 1 else 0) := by
        have hk' : k < ss.length := by have := HL.out; omega
        rw [ofL, List.take_succ_eq_append_getElem hk', List.countP_append, ofL]
        exact Lib.hid (by simp [List.countP_cons, List.getD, hk'])
      cases hle : leStr (ss.getD k ByteArray.empty) key with
      | true =>
        have Hn : Hid (q + 1 = ofL (ss.take (k + 1)) key) := Lib.hid (by rw [hts.out, hle, ← hall.out]; rfl)
        have hle' : (Op.bytesLess (ss[k]?.getD ByteArray.empty).toList key.toList || (ss[k]?.getD ByteArray.empty).toList == key.toList) = true := hle
        clear hle hall hts
        go_wp2
        go_round
        case rel => exact ⟨k + 1, q + 1, by omega, by omega, Hn, by go_num, by go_num⟩
        case measure => simp [intOf]; omega
      | false =>
        have Hn : Hid (q = ofL (ss.take (k + 1)) key) := Lib.hid (by rw [hts.out, hle, ← hall.out]; rfl)
        have hle' : (Op.bytesLess (ss[k]?.getD ByteArray.empty).toList key.toList || (ss[k]?.getD ByteArray.empty).toList == key.toList) = false := hle
        clear hle hall hts
        go_wp2
        go_round
        case rel => exact ⟨k + 1, q, by omega, by omega, Hn, by go_num, rfl⟩
        case measure => simp [intOf]; omega
    · have e : q = ofL ss key := by rw [hall.out, List.take_of_length_le (by have := HL.out; omega)]
      subst e
      clear hall
      go_wp2
      go_ret
      exact ⟨rfl, rfl⟩

/-- The splits rise. -/
def Rises (ss : List ByteArray) : Prop := ∀ i j, i < j → j < ss.length → leStr (ss.getD j ByteArray.empty) (ss.getD i ByteArray.empty) = false
theorem rises_of (ss : List ByteArray) (h : rightL ss = 0) : Rises ss := by
  have h' : stepsDown ss = false := by
    unfold rightL at h
    cases hs : stepsDown ss with
    | false => rfl
    | true => simp only [hs, if_true] at h; split at h <;> (try split at h) <;> simp at h
  clear h
  have step : ∀ k, k + 1 < ss.length → (ss.getD k ByteArray.empty).toList < (ss.getD (k + 1) ByteArray.empty).toList := fun k hk => by
    cases hc : leStr (ss.getD (k + 1) ByteArray.empty) (ss.getD k ByteArray.empty) with
    | true => rw [stepsDown_at hk hc] at h'; exact absurd h' (by decide)
    | false => rw [leStr_iff, less_iff] at hc; simpa using hc
  have all : ∀ d i, i + d + 1 < ss.length → (ss.getD i ByteArray.empty).toList < (ss.getD (i + d + 1) ByteArray.empty).toList := by
    intro d
    induction d with
    | zero => exact fun i hi => step i (by omega)
    | succ d ih => exact fun i hi => List.lt_trans (ih i (by omega)) (step (i + d + 1) (by omega))
  intro i j hij hj
  have := all (j - i - 1) i (by omega)
  rw [show i + (j - i - 1) + 1 = j by omega] at this
  rw [leStr_iff, less_iff]
  simpa using this
/-- Of rising splits the count is a bound. -/
theorem ofL_bound (ss : List ByteArray) (key : ByteArray) (h : Rises ss) : ofL ss key ≤ ss.length ∧ (∀ j, j < ofL ss key → leStr (ss.getD j ByteArray.empty) key = true) ∧ (∀ j, ofL ss key ≤ j → j < ss.length → leStr (ss.getD j ByteArray.empty) key = false) := by
  refine ⟨List.countP_le_length, ?_⟩
  induction ss with
  | nil => exact ⟨fun j hj => by simp [ofL] at hj, fun j _ hj => by simp at hj⟩
  | cons s r ih =>
    have hr : Rises r := fun i j hij hj => by have := h (i + 1) (j + 1) (by omega) (by simpa using hj); simpa [List.getD] using this
    obtain ⟨ih1, ih2⟩ := ih hr
    cases hs : leStr s key with
    | true =>
      have e : ofL (s :: r) key = ofL r key + 1 := by simp [ofL, List.countP_cons, hs]
      rw [e]
      refine ⟨fun j hj => ?_, fun j h1 h2 => ?_⟩
      · cases j with
        | zero => simpa [List.getD] using hs
        | succ j => simpa [List.getD] using ih1 j (by omega)
      · cases j with
        | zero => omega
        | succ j => simpa [List.getD] using ih2 j (by omega) (by simpa using h2)
    | false =>
      have none : ∀ j, j < r.length → leStr (r.getD j ByteArray.empty) key = false := fun j hj => by
        have h1 := h 0 (j + 1) (by omega) (by simpa using hj)
        simp only [List.getD, List.getElem?_cons_succ, List.getElem?_cons_zero, Option.getD_some] at h1
        rw [leStr_iff, less_iff] at hs h1 ⊢
        simp only [Bool.not_eq_false', decide_eq_true_eq, List.getD] at *
        exact decide_eq_true (List.lt_trans hs h1)
      have e : ofL (s :: r) key = 0 := by
        unfold ofL
        rw [List.countP_eq_zero]
        intro x hx
        rcases List.mem_cons.1 hx with rfl | hx
        · simp [hs]
        · obtain ⟨j, hj, rfl⟩ := List.getElem_of_mem hx
          have := none j hj
          simp [List.getD, hj] at this
          simp [this]
      rw [e]
      refine ⟨fun j hj => absurd hj (by omega), fun j _ h2 => ?_⟩
      cases j with
      | zero => simpa [List.getD] using hs
      | succ j => simpa [List.getD] using none j (by simpa using h2)

set_option maxHeartbeats 400000 in
theorem ofClosure (bm bk g : Nat) (a : Option Addr) (n c : Nat) (ss : List ByteArray) (key : ByteArray) (i : Nat) (w : World) (hi : i < n)
    (h1 : w.cell? ⟨bm, 0, none⟩ = some (.pointer (some ⟨g, 0, none⟩))) (h2 : w.cell? ⟨bk, 0, none⟩ = some (.string key)) (h3 : w.cell? ⟨g, 0, none⟩ = some (.slice a n c)) (h : StrsAt w a n ss) (hn : n ≤ maxLen) :
    Calls Tryd.prog 52 #[.int .i64 i, .pointer (some ⟨bm, 0, none⟩), .pointer (some ⟨bk, 0, none⟩)] w fun e w' => e = .returned (.bool (!leStr (ss.getD i ByteArray.empty) key)) ∧ ∃ k, w' = w.drewN k := by
  unfold maxLen at hn
  obtain ⟨b, off, rfl, hcell⟩ := h.2 i hi
  clear h
  go_enter Tryd.func52, Tryd.ntmps52
  go_wp2
  go_quiet (fail)
  go_wp2
  go_ret
  exact ⟨by rw [show leStr (ss.getD i ByteArray.empty) key = (Op.bytesLess (ss[i]?.getD ByteArray.empty).toList key.toList || (ss[i]?.getD ByteArray.empty).toList == key.toList) from rfl, Bool.not_or]; rfl, _, rfl⟩

/-- What sort.Search is handed by Of. -/
def ofFn (bm bk : Nat) : Value := .func (.func 52) #[] #[.pointer (some ⟨bm, 0, none⟩), .pointer (some ⟨bk, 0, none⟩)]

set_option maxHeartbeats 400000 in
theorem search_any (bm bk g : Nat) (a : Option Addr) (n c : Nat) (ss : List ByteArray) (key : ByteArray) (w : World) (hr : Rises ss)
    (h1 : w.cell? ⟨bm, 0, none⟩ = some (.pointer (some ⟨g, 0, none⟩))) (h2 : w.cell? ⟨bk, 0, none⟩ = some (.string key)) (h3 : w.cell? ⟨g, 0, none⟩ = some (.slice a n c)) (h : StrsAt w a n ss) (hn : n ≤ 100) :
    Calls Tryd.prog 51 #[.int .i64 n, .func (.func 52) #[] #[.pointer (some ⟨bm, 0, none⟩), .pointer (some ⟨bk, 0, none⟩)]] w fun e w' => e = .returned (.int .i64 (ofL ss key)) ∧ ∃ k, w' = w.drewN k := by
  have HL : Hid (n = ss.length) := Lib.hid h.1
  have HB := Lib.hid (ofL_bound ss key hr)
  have HF : Hid (∀ q (i : Int), 0 ≤ i → i < n → Calls Tryd.prog 52 #[.int .i64 i, .pointer (some ⟨bm, 0, none⟩), .pointer (some ⟨bk, 0, none⟩)] (w.drewN q) fun e w' => e = .returned (.bool (!leStr (ss.getD i.toNat ByteArray.empty) key)) ∧ ∃ k, w' = (w.drewN q).drewN k) := Lib.hid fun q i h0 hi => by
    obtain ⟨i, rfl⟩ := Int.eq_ofNat_of_zero_le h0
    exact ofClosure bm bk g a n c ss key i (w.drewN q) (by omega) h1 h2 h3 h (by unfold maxLen; omega)
  have hq : (ofL ss key) ≤ n := by have := HB.out.1; have := HL.out; omega
  clear h1 h2 h3 h hr
  generalize hk : ofL ss key = q at *
  have HK := Lib.hid hk
  clear hk
  go_enter Tryd.func51, Tryd.ntmps51
  go_wp2
  go_loopw [5, 6, 7] (fun i j _ wr => ∃ x y t : Nat, x ≤ q ∧ q ≤ y ∧ y ≤ n ∧ i = .int .i64 x ∧ j = .int .i64 y ∧ wr = w.drewN t) (fun i j _ _ => ((intOf j) - (intOf i)).toNat)
  case atStart => exact ⟨0, n, 0, by omega, hq, Nat.le_refl _, rfl, rfl, rfl⟩
  case round =>
    obtain ⟨x, y, t, hx, hy, hyn, rfl, rfl, rfl⟩ := hrel
    by_cases hlt : x < y
    · have hm : (((x : Int) + (y : Int)) / 2).toNat = (x + y) / 2 := by omega
      have HC := HF.out t (((x : Int) + (y : Int)) / 2) (by omega) (by omega)
      rw [hm] at HC
      clear hm
      cases hle : leStr (ss.getD ((x + y) / 2) ByteArray.empty) key with
      | true =>
        rw [hle] at HC
        have hin : (x + y) / 2 < q := by
          rcases Nat.lt_or_ge ((x + y) / 2) q with h | h
          · exact h
          · have := HB.out.2.2 _ h (by have := HL.out; omega); rw [hle] at this; exact absurd this (by decide)
        have HC' := Lib.hid HC
        clear HC hle
        go_wp2_with (go_at_call 52; refine HC'.out.mono ?_; rintro e w' ⟨rfl, u, rfl⟩)
        go_roundw
        case rel => exact ⟨(x + y) / 2 + 1, y, _, by omega, hy, hyn, by congr 1, rfl, rfl⟩
        case measure => simp [intOf]; omega
      | false =>
        rw [hle] at HC
        have hin : q ≤ (x + y) / 2 := by
          rcases Nat.lt_or_ge ((x + y) / 2) q with h | h
          · have := HB.out.2.1 _ h; rw [hle] at this; exact absurd this (by decide)
          · exact h
        have HC' := Lib.hid HC
        clear HC hle
        go_wp2_with (go_at_call 52; refine HC'.out.mono ?_; rintro e w' ⟨rfl, u, rfl⟩)
        go_roundw
        case rel => exact ⟨x, (x + y) / 2, _, hx, hin, by omega, rfl, by congr 1, rfl⟩
        case measure => simp [intOf]; omega
    · have e : x = q := by omega
      subst e
      go_wp2_with fail
      go_ret
      exact ⟨rfl, _, rfl⟩

set_option maxHeartbeats 400000 in
theorem of_any (g : Nat) (ss : List ByteArray) (key : ByteArray) (w : World) (h : MapAt w g ss) (hr : Rises ss) :
    Calls Tryd.prog 44 #[.pointer (some ⟨g, 0, none⟩), .string key] w fun e w' => e = .returned (.int .i64 (ofL ss key)) ∧ Keep w w' := by
  obtain ⟨a, n, c, hc, hs, h7⟩ := h
  have e : n = ss.length := hs.1
  subst e
  have k1 : Keep w (w.alloc (.cells #[.pointer (some ⟨g, 0, none⟩)] 26)) := Keep.alloc _ _
  have k2 : Keep w ((w.alloc (.cells #[.pointer (some ⟨g, 0, none⟩)] 26)).alloc (.cells #[.string key] 9)) := k1.trans (Keep.alloc _ _)
  have hb : w.heap.size + 1 = (w.alloc (.cells #[.pointer (some ⟨g, 0, none⟩)] 26)).heap.size := by simp
  have HC := Lib.hid (search_any w.heap.size (w.heap.size + 1) g a ss.length c ss key ((w.alloc (.cells #[.pointer (some ⟨g, 0, none⟩)] 26)).alloc (.cells #[.string key] 9)) hr ((Keep.alloc _ _).cell (cell_new1 _ _ _)) (by rw [hb]; exact cell_new1 _ _ _) (k2.cell hc) (hs.keep k2) (by omega))
  have HK := Lib.hid k2
  have hg : g < w.heap.size := World.block_lt_of_cell? w _ hc
  clear k1 k2 hb hs hr
  go_enter Tryd.func44, Tryd.ntmps44
  go_wp2_with (go_at_call 51; refine HC.out.mono ?_; rintro e w' ⟨rfl, u, rfl⟩)
  go_ret
  exact ⟨rfl, HK.out.trans (Keep.drewN _ _)⟩

end Go.Proofs.YtmifgnibalbgjaaDoor

