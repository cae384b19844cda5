/- The reference's set. -/
import Derived.Test.YtlmfpkfgjfdhgaaAQ
namespace Go.Proofs.Ytlmfpkfgjfdhgaa
open Go.RowKit

theorem info91 : (Try.prog.info? 91).map (fun i => (i.zero, i.size, i.bytes)) = some (some (.agg #[.string ⟨#[]⟩, .int .i64 0]), 2, 24) := by kernel_rfl
def RPost (p : Nat) (wd : Bool) (M : List Mb) (K : List Lk) (w : World) (D : List Nat) (e0 e : Ending) (w' : World) : Prop := e = e0 ∧ ∃ D', RefA p wd M K w' D' ∧ Step w D w' D'
/-- the new lock, if it is its turn. -/
def set1 (key : ByteArray) (id : Int) (s : List Lk × Bool) (h : Lk) : List Lk × Bool := if (!s.2 && !ltS h.key key) = true then (s.1 ++ [⟨key, id⟩], true) else s
def setStep (key : ByteArray) (id : Int) (s : List Lk × Bool) (h : Lk) : List Lk × Bool := (if (h.key.toList == key.toList) = true then (set1 key id s h).1 else (set1 key id s h).1 ++ [h], (set1 key id s h).2)
def setAcc (key : ByteArray) (id : Int) (K : List Lk) : List Lk × Bool := K.foldl (setStep key id) ([], decide (id < 0))
def setF (K : List Lk) (key : ByteArray) (id : Int) : List Lk := if (setAcc key id K).2 = true then (setAcc key id K).1 else (setAcc key id K).1 ++ [⟨key, id⟩]
theorem setAcc_take (key : ByteArray) (id : Int) (K : List Lk) (k : Nat) (hk : k < K.length) : setAcc key id (K.take (k + 1)) = setStep key id (setAcc key id (K.take k)) K[k] := by
  unfold setAcc
  rw [List.take_succ_eq_append_getElem hk, List.foldl_append]; rfl
theorem set1_len (key : ByteArray) (id : Int) (s : List Lk × Bool) (h : Lk) : (set1 key id s h).1.length ≤ s.1.length + 1 := by
  unfold set1
  split
  · simp
  · omega
theorem setStep_len (key : ByteArray) (id : Int) (s : List Lk × Bool) (h : Lk) : (setStep key id s h).1.length ≤ s.1.length + 2 := by
  have := set1_len key id s h
  unfold setStep
  split
  · simp only; omega
  · simp only [List.length_append, List.length_singleton]; omega
theorem setAcc_len (key : ByteArray) (id : Int) (K : List Lk) (k : Nat) (hk : k ≤ K.length) : (setAcc key id (K.take k)).1.length ≤ 2 * k := by
  induction k with
  | zero => simp [setAcc]
  | succ k ih =>
    rw [setAcc_take key id K k (by omega)]
    have h1 := setStep_len key id (setAcc key id (K.take k)) K[k]
    have h2 := ih (by omega)
    omega
theorem lkFlat_one1 (l : List Lk) (t : Lk) : lkFlat (l ++ [t]) = lkFlat l ++ [.string t.key, .int .i64 t.holder] := by
  rw [lkFlat_append]; rfl
theorem mem_empty {w0 w : World} {D0 : List Nat} {l : List Asn} [Stables l] (h : Mem w0 D0 w l) (E k : Nat) : Mem w0 D0 w (RowA E k none 0 0 [] :: l) :=
  h.new (Below.refl _ _) (As := [RowA E k none 0 0 []]) (D' := []) (all_one ⟨rfl, Row.nil _ _ _⟩) (by simp)
abbrev SetM (w : World) (D : List Nat) (p : Nat) (wd : Bool) (M : List Mb) (K : List Lk) (la : Option Addr) (lc : Nat) (ka : Option Addr) (kc : Nat) (v6 : Value) (acc : List Lk) (wr : World) : Prop :=
  ∃ a c, v6 = .slice a acc.length c ∧ Mem w D wr [RowA 91 2 a acc.length c (lkFlat acc), BlockA p #[.bool wd, .slice la M.length lc, .slice ka K.length kc] 53, RowA 61 4 la M.length lc (mbFlat M), RowA 91 2 ka K.length kc (lkFlat K)]
set_option maxRecDepth 100000 in
set_option maxHeartbeats 4000000 in
theorem rf_set (p : Nat) (wd : Bool) (M : List Mb) (K : List Lk) (key : ByteArray) (id : Int) (w : World) (D : List Nat) (h : RefA p wd M K w D) (hbig : K.length ≤ 100000) :
    Calls Try.prog 46 #[.pointer (some ⟨p, 0, none⟩), .string key, .int .i64 id] w (RPost p wd M (setF K key id) w D (.returned (.tuple #[]))) := by
  obtain ⟨la, lc, ka, kc, hA⟩ := h
  have M0 := Lib.hid (show SetM w D p wd M K la lc ka kc (.slice none 0 0) [] w from ⟨none, 0, rfl, mem_empty (Mem.ofAll hA) 91 2⟩)
  have hc : w.cell? ⟨p, 2, none⟩ = some (.slice ka K.length kc) := (Mem.cellAt (i := 2) [] (r := [RowA 61 4 la M.length lc (mbFlat M), RowA 91 2 ka K.length kc (lkFlat K)]) (Mem.ofAll hA) rfl).1
  have HFIN : Hid (∀ a c wr, Mem w D wr [RowA 91 2 a (setF K key id).length c (lkFlat (setF K key id)), BlockA p #[.bool wd, .slice la M.length lc, .slice ka K.length kc] 53, RowA 61 4 la M.length lc (mbFlat M), RowA 91 2 ka K.length kc (lkFlat K)] → RPost p wd M (setF K key id) w D (.returned (.tuple #[])) (.returned (.tuple #[])) (wr.setCell ⟨p, 2, none⟩ (.slice a (setF K key id).length c))) := Lib.hid fun a c wr hm => by
    have h1 := Mem.setAt (i := 2) [RowA 91 2 a (setF K key id).length c (lkFlat (setF K key id))] (r := [RowA 61 4 la M.length lc (mbFlat M), RowA 91 2 ka K.length kc (lkFlat K)]) hm (.slice a (setF K key id).length c)
    have h2 := Mem.drop [RowA 91 2 a (setF K key id).length c (lkFlat (setF K key id)), BlockA p #[.bool wd, .slice la M.length lc, .slice a (setF K key id).length c] 53, RowA 61 4 la M.length lc (mbFlat M)] (r := []) h1
    have h3 := Mem.swap [] (r := [RowA 61 4 la M.length lc (mbFlat M)]) h2
    have h4 := Mem.swap [BlockA p #[.bool wd, .slice la M.length lc, .slice a (setF K key id).length c] 53] (r := []) h3
    obtain ⟨D', q1, q2⟩ := h4.out
    exact ⟨rfl, D', ⟨la, lc, a, c, q1⟩, q2⟩
  have HFC : Hid (∀ a c wr acc, Mem w D wr [RowA 91 2 a (List.length acc) c (lkFlat acc), BlockA p #[.bool wd, .slice la M.length lc, .slice ka K.length kc] 53, RowA 61 4 la M.length lc (mbFlat M), RowA 91 2 ka K.length kc (lkFlat K)] → wr.frozen? ⟨p, 2, none⟩ = false ∧ wr.cell? ⟨p, 2, none⟩ = some (.slice ka K.length kc)) := Lib.hid fun a c wr acc hm => by
    have h1 := Mem.cellAt (i := 2) [RowA 91 2 a acc.length c (lkFlat acc)] (r := [RowA 61 4 la M.length lc (mbFlat M), RowA 91 2 ka K.length kc (lkFlat K)]) hm rfl
    exact ⟨h1.2, h1.1⟩
  have HR : Hid (Row w 91 2 ka K.length kc (lkFlat K)) := Lib.hid (Mem.rowAt [BlockA p #[.bool wd, .slice la M.length lc, .slice ka K.length kc] 53, RowA 61 4 la M.length lc (mbFlat M)] (r := []) (Mem.ofAll hA))
  have HST := Lib.hid (setAcc_take key id K)
  have HAL := Lib.hid (setAcc_len key id K)
  have HSF : Hid (setF K key id = if (setAcc key id (K.take K.length)).2 = true then (setAcc key id (K.take K.length)).1 else (setAcc key id (K.take K.length)).1 ++ [⟨key, id⟩]) := Lib.hid (by rw [List.take_length]; rfl)
  have H0 : Hid (setAcc key id (K.take 0) = ([], decide (id < 0))) := Lib.hid rfl
  generalize RPost p wd M (setF K key id) w D (.returned (.tuple #[])) = R at *
  clear hA
  go_enter Try.func46, Try.ntmps46
  go_wp2_with fail
  go_loopw [6, 7, 17] (fun v6 v7 j wr => ∃ k : Nat, k ≤ K.length ∧ j = .int .i64 k ∧ Hid (v7 = .bool (setAcc key id (K.take k)).2 ∧ SetM w D p wd M K la lc ka kc v6 (setAcc key id (K.take k)).1 wr)) (fun _ _ j _ => K.length - (intOf j).toNat)
  case atStart => exact ⟨0, Nat.zero_le _, rfl, Lib.hid ⟨rfl, M0.out⟩⟩
  case round =>
    obtain ⟨k, hk, rfl, hS⟩ := hrel
    clear M0
    obtain ⟨rfl, a, c, rfl, hm⟩ := hS.out
    have MM := Lib.hid hm
    have hal := HAL.out k hk
    clear hS hm
    by_cases hlt : k < K.length
    · have HT := Lib.hid (HST.out k hlt)
      obtain ⟨g, rfl, hcs⟩ := lkAt_row (Mem.rowAt [RowA 91 2 a (setAcc key id (K.take k)).1.length c (lkFlat (setAcc key id (K.take k)).1), BlockA p #[.bool wd, .slice la M.length lc, .slice ka K.length kc] 53, RowA 61 4 la M.length lc (mbFlat M)] (r := []) MM.out) k hlt
      obtain ⟨hx0, hx1⟩ := hcs
      generalize setAcc key id (K.take k) = sa at *
      obtain ⟨acc, dn⟩ := sa
      simp only at MM hal
      generalize K[k] = x at *
      obtain ⟨xk, xh⟩ := x
      simp only at hx0 hx1
      have M1 := Lib.hid (show Mem w D (wr.alloc (.cells #[.string xk, .int .i64 xh] 91)) ([BlockA wr.heap.size #[.string xk, .int .i64 xh] 91] ++ RowA 91 2 a acc.length c (lkFlat acc) :: [BlockA p #[.bool wd, .slice la M.length lc, .slice (some ⟨g, 0, none⟩) K.length kc] 53, RowA 61 4 la M.length lc (mbFlat M), RowA 91 2 (some ⟨g, 0, none⟩) K.length kc (lkFlat K)]) from MM.out.block _ _)
      have hal2 : acc.length ≤ 200000 := by omega
      clear hal MM
      unfold setStep at HT
      by_cases hn1 : (!dn && !ltS xk key) = true
      · have h1 : set1 key id (acc, dn) ⟨xk, xh⟩ = (acc ++ [⟨key, id⟩], true) := by unfold set1; rw [if_pos hn1]
        rw [h1] at HT
        obtain ⟨hd, hl⟩ := Bool.and_eq_true_iff.1 hn1
        have hd : dn = false := by simpa using hd
        have hl : ltS xk key = false := by simpa using hl
        subst hd
        unfold ltS at hl
        clear hn1 h1
        obtain ⟨a2, c2, w2, hrun, hm2⟩ := Mem.app1 (P := Try.prog) (t := 51) (ty := 51) [BlockA wr.heap.size #[.string xk, .int .i64 xh] 91] (r := [BlockA p #[.bool wd, .slice la M.length lc, .slice (some ⟨g, 0, none⟩) K.length kc] 53, RowA 61 4 la M.length lc (mbFlat M), RowA 91 2 (some ⟨g, 0, none⟩) K.length kc (lkFlat K)]) Try.underlying51 info91 (by rfl) (by decide) M1.out [.string key, .int .i64 id] rfl (by simp [Value.oneCell']) (by omega) (by decide)
        rw [show (wr.alloc (.cells #[.string xk, .int .i64 xh] 91)).heap.size = wr.heap.size + 1 by simp] at hrun
        rw [show lkFlat acc ++ [.string key, .int .i64 id] = lkFlat (acc ++ [⟨key, id⟩]) from (lkFlat_one1 acc ⟨key, id⟩).symm] at hm2
        have HRUN := Lib.hid hrun
        have M2 := Lib.hid (show Mem w D w2 ([BlockA wr.heap.size #[.string xk, .int .i64 xh] 91] ++ RowA 91 2 a2 (acc.length + 1) c2 (lkFlat (acc ++ [⟨key, id⟩])) :: [BlockA p #[.bool wd, .slice la M.length lc, .slice (some ⟨g, 0, none⟩) K.length kc] 53, RowA 61 4 la M.length lc (mbFlat M), RowA 91 2 (some ⟨g, 0, none⟩) K.length kc (lkFlat K)]) from hm2)
        obtain ⟨z0, -⟩ := Mem.cellAt (i := 0) [] (r := [RowA 91 2 a2 (acc.length + 1) c2 (lkFlat (acc ++ [⟨key, id⟩])), BlockA p #[.bool wd, .slice la M.length lc, .slice (some ⟨g, 0, none⟩) K.length kc] 53, RowA 61 4 la M.length lc (mbFlat M), RowA 91 2 (some ⟨g, 0, none⟩) K.length kc (lkFlat K)]) M2.out rfl
        obtain ⟨z1, -⟩ := Mem.cellAt (i := 1) [] (r := [RowA 91 2 a2 (acc.length + 1) c2 (lkFlat (acc ++ [⟨key, id⟩])), BlockA p #[.bool wd, .slice la M.length lc, .slice (some ⟨g, 0, none⟩) K.length kc] 53, RowA 61 4 la M.length lc (mbFlat M), RowA 91 2 (some ⟨g, 0, none⟩) K.length kc (lkFlat K)]) M2.out rfl
        clear hrun hm2 M1
        by_cases he : (xk.toList == key.toList) = true
        · rw [if_pos he] at HT
          have HNX : Hid (SetM w D p wd M K la lc (some ⟨g, 0, none⟩) kc (.slice a2 (acc.length + 1) c2) (acc ++ [⟨key, id⟩]) w2) := Lib.hid ⟨a2, c2, by simp, by rw [List.length_append]; exact Mem.drop [] (r := [RowA 91 2 a2 (acc.length + 1) c2 (lkFlat (acc ++ [⟨key, id⟩])), BlockA p #[.bool wd, .slice la M.length lc, .slice (some ⟨g, 0, none⟩) K.length kc] 53, RowA 61 4 la M.length lc (mbFlat M), RowA 91 2 (some ⟨g, 0, none⟩) K.length kc (lkFlat K)]) M2.out⟩
          go_wp2_with ((at_builtin; refine wpList_appendR _ rfl (.tmp 29) (.tmp 33) 51 51 rfl (.slice a acc.length c) (.slice (some ⟨wr.heap.size + 1, 0, none⟩) 1 1) rfl rfl HRUN.out ?_))
          go_roundw
          case rel => exact ⟨k + 1, by omega, by go_num, Lib.hid ⟨by rw [HT.out], by rw [HT.out]; exact HNX.out⟩⟩
          case measure => simp [intOf]; omega
        · have he : (xk.toList == key.toList) = false := by simpa using he
          rw [he] at HT
          simp only [Bool.false_eq_true, if_false] at HT
          obtain ⟨a3, c3, w3, hrun, hm3⟩ := Mem.app1 (P := Try.prog) (t := 51) (ty := 51) [BlockA wr.heap.size #[.string xk, .int .i64 xh] 91] (r := [BlockA p #[.bool wd, .slice la M.length lc, .slice (some ⟨g, 0, none⟩) K.length kc] 53, RowA 61 4 la M.length lc (mbFlat M), RowA 91 2 (some ⟨g, 0, none⟩) K.length kc (lkFlat K)]) Try.underlying51 info91 (by rfl) (by decide) M2.out [.string xk, .int .i64 xh] rfl (by simp [Value.oneCell']) (by omega) (by decide)
          rw [show lkFlat (acc ++ [⟨key, id⟩]) ++ [.string xk, .int .i64 xh] = lkFlat (acc ++ [⟨key, id⟩] ++ [⟨xk, xh⟩]) from (lkFlat_one1 _ ⟨xk, xh⟩).symm] at hm3
          have HRUN3 := Lib.hid hrun
          have HNX : Hid (SetM w D p wd M K la lc (some ⟨g, 0, none⟩) kc (.slice a3 (acc.length + 1 + 1) c3) (acc ++ [⟨key, id⟩] ++ [⟨xk, xh⟩]) w3) := Lib.hid ⟨a3, c3, by simp, by rw [List.length_append, List.length_append]; exact Mem.drop [] (r := [RowA 91 2 a3 (acc.length + 1 + 1) c3 (lkFlat (acc ++ [⟨key, id⟩] ++ [⟨xk, xh⟩])), BlockA p #[.bool wd, .slice la M.length lc, .slice (some ⟨g, 0, none⟩) K.length kc] 53, RowA 61 4 la M.length lc (mbFlat M), RowA 91 2 (some ⟨g, 0, none⟩) K.length kc (lkFlat K)]) hm3⟩
          clear hrun hm3
          go_wp2_with (first
            | ((at_builtin; refine wpList_appendR _ rfl (.tmp 29) (.tmp 33) 51 51 rfl (.slice a acc.length c) (.slice (some ⟨wr.heap.size + 1, 0, none⟩) 1 1) rfl rfl HRUN.out ?_))
            | ((at_builtin; refine wpList_appendR _ rfl (.tmp 39) (.tmp 41) 51 51 rfl (.slice a2 (acc.length + 1) c2) (.slice (some ⟨w2.heap.size, 0, none⟩) 1 1) rfl rfl HRUN3.out ?_)))
          go_roundw
          case rel => exact ⟨k + 1, by omega, by go_num, Lib.hid ⟨by rw [HT.out], by rw [HT.out]; exact HNX.out⟩⟩
          case measure => simp [intOf]; omega
      · have h1 : set1 key id (acc, dn) ⟨xk, xh⟩ = (acc, dn) := by unfold set1; rw [if_neg hn1]
        rw [h1] at HT
        have hor : dn = true ∨ (dn = false ∧ ltS xk key = true) := by
          cases dn with
          | true => exact .inl rfl
          | false => exact .inr ⟨rfl, by simpa using hn1⟩
        clear hn1 h1
        by_cases he : (xk.toList == key.toList) = true
        · rw [if_pos he] at HT
          have HNX : Hid (SetM w D p wd M K la lc (some ⟨g, 0, none⟩) kc (.slice a acc.length c) acc (wr.alloc (.cells #[.string xk, .int .i64 xh] 91))) := Lib.hid ⟨a, c, rfl, Mem.drop [] (r := [RowA 91 2 a acc.length c (lkFlat acc), BlockA p #[.bool wd, .slice la M.length lc, .slice (some ⟨g, 0, none⟩) K.length kc] 53, RowA 61 4 la M.length lc (mbFlat M), RowA 91 2 (some ⟨g, 0, none⟩) K.length kc (lkFlat K)]) M1.out⟩
          unfold ltS at hor
          rcases hor with rfl | ⟨rfl, hl⟩
          all_goals
            go_wp2_with fail
            go_roundw
            case rel => exact ⟨k + 1, by omega, by go_num, Lib.hid ⟨by rw [HT.out], by rw [HT.out]; exact HNX.out⟩⟩
            case measure => simp [intOf]; omega
        · have he : (xk.toList == key.toList) = false := by simpa using he
          rw [he] at HT
          simp only [Bool.false_eq_true, if_false] at HT
          obtain ⟨a3, c3, w3, hrun, hm3⟩ := Mem.app1 (P := Try.prog) (t := 51) (ty := 51) [BlockA wr.heap.size #[.string xk, .int .i64 xh] 91] (r := [BlockA p #[.bool wd, .slice la M.length lc, .slice (some ⟨g, 0, none⟩) K.length kc] 53, RowA 61 4 la M.length lc (mbFlat M), RowA 91 2 (some ⟨g, 0, none⟩) K.length kc (lkFlat K)]) Try.underlying51 info91 (by rfl) (by decide) M1.out [.string xk, .int .i64 xh] rfl (by simp [Value.oneCell']) (by omega) (by decide)
          rw [show (wr.alloc (.cells #[.string xk, .int .i64 xh] 91)).heap.size = wr.heap.size + 1 by simp] at hrun
          rw [show lkFlat acc ++ [.string xk, .int .i64 xh] = lkFlat (acc ++ [⟨xk, xh⟩]) from (lkFlat_one1 _ ⟨xk, xh⟩).symm] at hm3
          have HRUN3 := Lib.hid hrun
          have HNX : Hid (SetM w D p wd M K la lc (some ⟨g, 0, none⟩) kc (.slice a3 (acc.length + 1) c3) (acc ++ [⟨xk, xh⟩]) w3) := Lib.hid ⟨a3, c3, by simp, by rw [List.length_append]; exact Mem.drop [] (r := [RowA 91 2 a3 (acc.length + 1) c3 (lkFlat (acc ++ [⟨xk, xh⟩])), BlockA p #[.bool wd, .slice la M.length lc, .slice (some ⟨g, 0, none⟩) K.length kc] 53, RowA 61 4 la M.length lc (mbFlat M), RowA 91 2 (some ⟨g, 0, none⟩) K.length kc (lkFlat K)]) hm3⟩
          clear hrun hm3
          unfold ltS at hor
          rcases hor with rfl | ⟨rfl, hl⟩
          all_goals
            go_wp2_with ((at_builtin; refine wpList_appendR _ rfl (.tmp 39) (.tmp 41) 51 51 rfl (.slice a acc.length c) (.slice (some ⟨wr.heap.size + 1, 0, none⟩) 1 1) rfl rfl HRUN3.out ?_))
            go_roundw
            case rel => exact ⟨k + 1, by omega, by go_num, Lib.hid ⟨by rw [HT.out], by rw [HT.out]; exact HNX.out⟩⟩
            case measure => simp [intOf]; omega
    · obtain rfl : k = K.length := by omega
      have hal2 : (setAcc key id (K.take K.length)).1.length ≤ 200000 := by omega
      clear HST HAL hal
      have hsf := HSF.out
      generalize setAcc key id (K.take K.length) = sa at *
      obtain ⟨acc, dn⟩ := sa
      simp only at MM hal2 hsf
      cases dn with
      | true =>
        simp only [if_true] at hsf
        rw [hsf] at HFIN
        obtain ⟨hf2, hc2⟩ := HFC.out _ _ _ _ MM.out
        have HF2 := Lib.hid (HFIN.out _ _ _ MM.out)
        clear hsf HSF MM
        go_wp2_with fail
        go_end0
        exact HF2.out
      | false =>
        simp only [Bool.false_eq_true, if_false] at hsf
        rw [hsf] at HFIN
        obtain ⟨a3, c3, w3, hrun, hm3⟩ := Mem.app1 (P := Try.prog) (t := 51) (ty := 51) [] (r := [BlockA p #[.bool wd, .slice la M.length lc, .slice ka K.length kc] 53, RowA 61 4 la M.length lc (mbFlat M), RowA 91 2 ka K.length kc (lkFlat K)]) Try.underlying51 info91 (by rfl) (by decide) MM.out [.string key, .int .i64 id] rfl (by simp [Value.oneCell']) (by omega) (by decide)
        rw [show lkFlat acc ++ [.string key, .int .i64 id] = lkFlat (acc ++ [⟨key, id⟩]) from (lkFlat_one1 acc ⟨key, id⟩).symm] at hm3
        have hm4 : Mem w D w3 [RowA 91 2 a3 (acc ++ [(⟨key, id⟩ : Lk)]).length c3 (lkFlat (acc ++ [⟨key, id⟩])), BlockA p #[.bool wd, .slice la M.length lc, .slice ka K.length kc] 53, RowA 61 4 la M.length lc (mbFlat M), RowA 91 2 ka K.length kc (lkFlat K)] := by rw [List.length_append]; exact hm3
        obtain ⟨hf2, hc2⟩ := HFC.out _ _ _ _ hm4
        have HF2 := Lib.hid (HFIN.out _ _ _ hm4)
        rw [show (acc ++ [(⟨key, id⟩ : Lk)]).length = acc.length + 1 by simp] at HF2
        have HRUN3 := Lib.hid hrun
        clear hrun hm3 hm4 hsf HSF MM
        go_wp2_with ((at_builtin; refine wpList_appendR _ rfl (.tmp 46) (.tmp 50) 51 51 rfl (.slice a acc.length c) (.slice (some ⟨wr.heap.size, 0, none⟩) 1 1) rfl rfl HRUN3.out ?_))
        go_end0
        exact HF2.out
end Go.Proofs.Ytlmfpkfgjfdhgaa
