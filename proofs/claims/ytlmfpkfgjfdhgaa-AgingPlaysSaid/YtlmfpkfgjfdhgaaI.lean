/- Holder, Waits, rests. -/
import Derived.Test.YtlmfpkfgjfdhgaaG
namespace Go.Proofs.Ytlmfpkfgjfdhgaa
open Go.RowKit

/-- a key's holder. -/
def holdK (K : List Lk) (k : ByteArray) : Int := if hasK K k then (K[posK K k]?.map (·.holder)).getD 0 else 0
def waitsM (M : List Mb) (id : Int) : ByteArray × Bool := match M[posM M id]? with
  | some m => if hasM M id && m.waits then (m.key, true) else (ByteArray.empty, false)
  | none => (ByteArray.empty, false)

set_option maxHeartbeats 800000 in
theorem tb_holder (p : Nat) (wd : Bool) (la : Option Addr) (lc : Nat) (M : List Mb) (ka : Option Addr) (kc : Nat) (K : List Lk) (k : ByteArray) (w : World) (h : Tb w p wd la lc M ka kc K) (hs : SortK K) (hbig : K.length ≤ 100000) :
    Calls Try.prog 23 #[.pointer (some ⟨p, 0, none⟩), .string k] w fun e w' => e = .returned (.tuple #[.int .i64 (holdK K k), .bool (hasK K k)]) ∧ Below w.heap.size w w' := by
  have HP := Lib.hid (tb_place p wd la lc M ka kc K k w h hs hbig)
  cases hh : hasK K k with
  | false =>
    have hv : holdK K k = 0 := by unfold holdK; rw [hh]; rfl
    rw [hh] at HP
    rw [hv]
    clear h hs hh hv
    go_enter Try.func23, Try.ntmps23
    go_wp2_with fail
    refine HP.out.mono ?_
    rintro e w1 ⟨rfl, hb⟩
    have HB := Lib.hid hb
    clear hb
    go_wp2_with fail
    go_ret2
    exact ⟨rfl, HB.out⟩
  | true =>
    obtain ⟨hl, _⟩ := (hasK_iff hs k).1 hh
    have hv : holdK K k = (K[posK K k]'hl).holder := by unfold holdK; rw [hh]; simp [hl]
    rw [hh] at HP
    rw [hv]
    obtain ⟨g, rfl, hcs⟩ := lkAt_row h.rk (posK K k) hl
    have HT := Lib.hid h
    clear h hs hh hv
    have HCS := Lib.hid hcs
    clear hcs
    generalize hq : posK K k = q at *
    have HQ := Lib.hid hq
    clear hq
    generalize hz : K[q] = z at *
    clear hz
    obtain ⟨zk, zh⟩ := z
    simp only at HCS ⊢
    go_enter Try.func23, Try.ntmps23
    go_wp2_with fail
    refine HP.out.mono ?_
    rintro e w1 ⟨rfl, hb⟩
    have hc := (HT.out.below hb).cell2.1
    obtain ⟨hx0, hx1⟩ := HCS.out.below hb
    simp only at hx0 hx1
    have HB := Lib.hid hb
    clear hb
    generalize K.length = n at *
    go_wp2_with fail
    go_ret2
    exact ⟨rfl, HB.out⟩
set_option maxHeartbeats 1600000 in
theorem tb_waits (p : Nat) (wd : Bool) (la : Option Addr) (lc : Nat) (M : List Mb) (ka : Option Addr) (kc : Nat) (K : List Lk) (id : Int) (w : World) (h : Tb w p wd la lc M ka kc K) (hs : SortM M) (hbig : M.length ≤ 1000) :
    Calls Try.prog 30 #[.pointer (some ⟨p, 0, none⟩), .int .i64 id] w fun e w' => e = .returned (.tuple #[.string (waitsM M id).1, .bool (waitsM M id).2]) ∧ Below w.heap.size w w' := by
  have HP := Lib.hid (tb_find p wd la lc M ka kc K id w h hs hbig)
  cases hh : hasM M id with
  | false =>
    have hv : waitsM M id = (ByteArray.empty, false) := by
      unfold waitsM; rw [hh]; cases M[posM M id]? <;> rfl
    rw [hh] at HP
    rw [hv]
    clear h hs hh hv
    go_enter Try.func30, Try.ntmps30
    go_wp2_with fail
    refine HP.out.mono ?_
    rintro e w1 ⟨rfl, hb⟩
    have HB := Lib.hid hb
    clear hb
    go_wp2_with fail
    go_ret2
    exact ⟨rfl, HB.out⟩
  | true =>
    obtain ⟨hl, _⟩ := (hasM_iff hs id).1 hh
    have hv : waitsM M id = if (M[posM M id]'hl).waits then ((M[posM M id]'hl).key, true) else (ByteArray.empty, false) := by
      unfold waitsM; rw [List.getElem?_eq_getElem hl, hh]; simp
    rw [hh] at HP
    rw [hv]
    obtain ⟨g, rfl, hcs⟩ := mbAt_row h.rm (posM M id) hl
    have HT := Lib.hid h
    clear h hs hh hv
    have HCS := Lib.hid hcs
    clear hcs
    generalize hq : posM M id = q at *
    have HQ := Lib.hid hq
    clear hq
    generalize hz : M[q] = z at *
    clear hz
    obtain ⟨zi, zs, zw, zk⟩ := z
    simp only at HCS ⊢
    cases zw with
    | true =>
      simp only [if_true]
      go_enter Try.func30, Try.ntmps30
      go_wp2_with fail
      refine HP.out.mono ?_
      rintro e w1 ⟨rfl, hb⟩
      have hc := (HT.out.below hb).cell1.1
      obtain ⟨hx0, hx1, hx2, hx3⟩ := HCS.out.below hb
      simp only at hx0 hx1 hx2 hx3
      have HB := Lib.hid hb
      clear hb
      generalize M.length = n at *
      go_wp2_with fail
      go_ret2
      exact ⟨rfl, HB.out⟩
    | false =>
      simp only [Bool.false_eq_true, if_false]
      go_enter Try.func30, Try.ntmps30
      go_wp2_with fail
      refine HP.out.mono ?_
      rintro e w1 ⟨rfl, hb⟩
      have hc := (HT.out.below hb).cell1.1
      obtain ⟨hx0, hx1, hx2, hx3⟩ := HCS.out.below hb
      simp only at hx0 hx1 hx2 hx3
      have HB := Lib.hid hb
      clear hb
      generalize M.length = n at *
      go_wp2_with fail
      go_ret2
      exact ⟨rfl, HB.out⟩
end Go.Proofs.Ytlmfpkfgjfdhgaa
