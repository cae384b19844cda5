/- Ask: the short ways. -/
import Derived.Test.YtlmfpkfgjfdhgaaQ
namespace Go.Proofs.Ytlmfpkfgjfdhgaa
open Go.RowKit

/-- two numbers are the answer. -/
abbrev two (a b : Int) : Ending := .returned (.tuple #[.int .i64 a, .int .i64 b])
theorem tpost_below {w : World} {D : List Nat} {p : Nat} {wd : Bool} {M : List Mb} {K : List Lk} (h : TbA p wd M K w D) (e0 : Ending) (w1 : World) (hb : Below w.heap.size w w1) : TPost w D p wd e0 M K e0 w1 :=
  ⟨rfl, _, Stable.keep h (fun x hx => hb.block x (Stable.lt h x hx)), Step.of_below hb _⟩
theorem tb_insK (p : Nat) (wd : Bool) (la : Option Addr) (lc : Nat) (M : List Mb) (ka : Option Addr) (kc : Nat) (K : List Lk) (q : Nat) (hq : q ≤ K.length) (t : Lk) (w : World) (h : Tb w p wd la lc M ka kc K) (hbig : K.length ≤ 100000) (e0 : Ending) (W : World) (hb : Below w.heap.size w W) (vb : Nat)
    (hv : W.heap[vb]? = some (.cells (lkCells t).toArray 82 (0, 0))) (hvb : w.heap.size ≤ vb) :
    Calls Try.prog 39 #[.slice ka K.length kc, .int .i64 q, .slice (some ⟨vb, 0, none⟩) 1 1] W (fun e W' => ∃ a' n' c', e = .returned (.slice a' n' c') ∧ (∃ v, W'.cell? ⟨p, 2, none⟩ = some v) ∧ W'.frozen? ⟨p, 2, none⟩ = false ∧
      TPost w (tbD p la ka) p wd e0 M (insAt K q t) e0 (W'.setCell ⟨p, 2, none⟩ (.slice a' n' c'))) := by
  have h2 := h.below hb
  have hlt : ∀ x ∈ blkOf ka, x < w.heap.size := fun x hx => by obtain ⟨y, hy, rfl⟩ := mem_blkOf.1 hx; exact h.rk.lt y hy
  refine (insL_any ka K.length kc q vb (lkFlat K) (lkCells t) W h2.rk hv rfl (fun h => by have := hlt _ h; omega) (lkFlat_one K) (by simp [lkCells, Value.oneCell']) hq (by omega)).mono ?_
  rintro e W' ⟨a', c', rfl, hrow, ht, hf⟩
  have hlen := insAt_len (x := t) hq
  rw [lkFlat_take, lkFlat_drop, List.append_assoc, ← lkFlat_cons, ← lkFlat_append, ← insAt, ← hlen] at hrow
  have hp := Touch.heap ht h2.hp h2.nk
  obtain ⟨k1, k2⟩ := h2.setK hrow ht hf
  rw [hlen] at k1 k2
  exact ⟨_, _, _, rfl, ⟨_, (cell_of_heap (i := 2) hp rfl).1⟩, (cell_of_heap (i := 2) hp rfl).2, rfl, _, ⟨_, _, _, _, rfl, k1⟩, (Step.of_below hb _).trans k2⟩
section
variable (p : Nat) (wd : Bool) (M : List Mb) (K : List Lk) (id : Int) (key : ByteArray) (w : World) (D : List Nat)
set_option maxRecDepth 100000 in
set_option maxHeartbeats 4000000 in
theorem tb_ask_arg (h : TbA p wd M K w D) (hz : (16 : Int) < (key.size : Int)) :
    Calls Try.prog 12 #[.pointer (some ⟨p, 0, none⟩), .int .i64 id, .string key] w (TPost w D p wd (two (-1) 1) M K) := by
  have HFIN := Lib.hid fun w1 hb => tpost_below h (two (-1) 1) w1 hb
  generalize TPost w D p wd (two (-1) 1) M K = R at *
  clear h
  have h0 : Below w.heap.size w w := Below.refl _ _
  go_enter Try.func12, Try.ntmps12
  go_wp2_with fail
  exact HFIN.out _ h0
set_option maxRecDepth 100000 in
set_option maxHeartbeats 4000000 in
theorem tb_ask_none (hok : TOk M K) (h : TbA p wd M K w D) (hz : ¬ (16 : Int) < (key.size : Int)) (hh : hasM M id = false) :
    Calls Try.prog 12 #[.pointer (some ⟨p, 0, none⟩), .int .i64 id, .string key] w (TPost w D p wd (two (-1) 6) M K) := by
  have HFIN := Lib.hid fun w1 hb => tpost_below h (two (-1) 6) w1 hb
  obtain ⟨la, lc, ka, kc, rfl, ht⟩ := h
  have HP := Lib.hid (tb_find p wd la lc M ka kc K id w ht hok.sm hok.fm)
  rw [hh] at HP
  generalize TPost w (tbD p la ka) p wd (two (-1) 6) M K = R at *
  clear ht hok
  go_enter Try.func12, Try.ntmps12
  go_wp2_with fail
  refine HP.out.mono ?_
  rintro e w1 ⟨rfl, hb⟩
  have HB := Lib.hid hb
  clear hb
  go_wp2_with fail
  exact HFIN.out _ HB.out
set_option maxRecDepth 100000 in
set_option maxHeartbeats 4000000 in
theorem tb_ask_state (hok : TOk M K) (h : TbA p wd M K w D) (hz : ¬ (16 : Int) < (key.size : Int)) (hh : hasM M id = true) (hl : posM M id < M.length) (hw : M[posM M id].waits = true) :
    Calls Try.prog 12 #[.pointer (some ⟨p, 0, none⟩), .int .i64 id, .string key] w (TPost w D p wd (two (-1) 8) M K) := by
  have HFIN := Lib.hid fun w1 hb => tpost_below h (two (-1) 8) w1 hb
  obtain ⟨la, lc, ka, kc, rfl, ht⟩ := h
  have HP := Lib.hid (tb_find p wd la lc M ka kc K id w ht hok.sm hok.fm)
  rw [hh] at HP
  obtain ⟨g, rfl, hcs⟩ := mbAt_row ht.rm (posM M id) hl
  have HCS := Lib.hid hcs.2.2.1
  rw [hw] at HCS
  have HX := Lib.hid fun w1 (hb : Below w.heap.size w w1) => (hb.cell (p := ⟨g, posM M id * 4 + 2, none⟩) (ht.rm.lt ⟨g, 0, none⟩ rfl)).trans HCS.out
  have HT := Lib.hid ht
  have hqn : (posM M id : Int) < (M.length : Int) := by omega
  have hqm : (M.length : Int) ≤ 1000 := by have := hok.fm; omega
  generalize TPost w (tbD p (some ⟨g, 0, none⟩) ka) p wd (two (-1) 8) M K = R at *
  clear ht hok hcs HCS hw hh
  go_enter Try.func12, Try.ntmps12
  go_wp2_with fail
  refine HP.out.mono ?_
  rintro e w1 ⟨rfl, hb⟩
  have hc := (HT.out.below hb).cell1.1
  have hx := HX.out _ hb
  have HB := Lib.hid hb
  clear hb
  go_wp2_with fail
  exact HFIN.out _ HB.out
set_option maxRecDepth 100000 in
set_option maxHeartbeats 4000000 in
theorem tb_ask_new (hok : TOk M K) (h : TbA p wd M K w D) (hz : ¬ (16 : Int) < (key.size : Int)) (hh : hasM M id = true) (hl : posM M id < M.length) (hw : M[posM M id].waits = false) (hk : hasK K key = false) :
    Calls Try.prog 12 #[.pointer (some ⟨p, 0, none⟩), .int .i64 id, .string key] w (TPost w D p wd (two (-1) 0) M (insAt K (posK K key) ⟨key, id⟩)) := by
  obtain ⟨la, lc, ka, kc, rfl, ht⟩ := h
  have HP := Lib.hid (tb_find p wd la lc M ka kc K id w ht hok.sm hok.fm)
  rw [hh] at HP
  have HK := Lib.hid fun w1 (hb : Below w.heap.size w w1) => tb_place p wd la lc M ka kc K key w1 (ht.below hb) hok.sk hok.fk
  rw [hk] at HK
  have HI := Lib.hid fun W (hb : Below w.heap.size w W) vb hv hvb => tb_insK p wd la lc M ka kc K (posK K key) (posBy_le _ _) ⟨key, id⟩ w ht hok.fk (two (-1) 0) W hb vb hv hvb
  simp only [lkCells] at HI
  obtain ⟨g, rfl, hcs⟩ := mbAt_row ht.rm (posM M id) hl
  have HCS := Lib.hid hcs.2.2.1
  rw [hw] at HCS
  have HX := Lib.hid fun w1 (hb : Below w.heap.size w w1) => (hb.cell (p := ⟨g, posM M id * 4 + 2, none⟩) (ht.rm.lt ⟨g, 0, none⟩ rfl)).trans HCS.out
  have HT := Lib.hid ht
  have HN := Lib.hid (ht.lt p (by simp [tbD]))
  have hqn : (posM M id : Int) < (M.length : Int) := by omega
  have hqm : (M.length : Int) ≤ 1000 := by have := hok.fm; omega
  have hkn : (posK K key : Int) ≤ (K.length : Int) := by have := posBy_le (fun l : Lk => ltS l.key key) K; unfold posK; omega
  have hkm : (K.length : Int) ≤ 100000 := by have := hok.fk; omega
  generalize TPost w (tbD p (some ⟨g, 0, none⟩) ka) p wd (two (-1) 0) M (insAt K (posK K key) ⟨key, id⟩) = R at *
  clear ht hok hcs HCS hw hh hk
  go_enter Try.func12, Try.ntmps12
  go_wp2_with fail
  refine HP.out.mono ?_
  rintro e w1 ⟨rfl, hb⟩
  have hc := (HT.out.below hb).cell1.1
  have hx := HX.out _ hb
  have HB := Lib.hid hb
  clear hb
  go_wp2_with fail
  refine (HK.out _ HB.out).mono ?_
  rintro e w2 ⟨rfl, hb2⟩
  have hb := HB.out.trans (hb2.mono HB.out.size)
  clear hc hx HX
  have hc := (HT.out.below hb).cell2.1
  have hps : ¬ p = w2.heap.size := by have := hb.size; have := HN.out; omega
  have HI2 := Lib.hid (HI.out ((w2.alloc (.cells #[Value.string key, .int .i64 id] 82))) (hb.trans (Below.alloc (Below.refl _ _) (hb.size) _)) w2.heap.size (by show (w2.heap.push _)[w2.heap.size]? = _; rw [Array.getElem?_push, if_pos rfl]) hb.size)
  clear hb hb2 HI HB
  go_wp2_with fail
  refine HI2.out.mono ?_
  rintro e w3 ⟨a', n', c', rfl, ⟨v3, hc3⟩, hf3, hfin⟩
  have HFIN := Lib.hid hfin
  clear hfin
  go_wp2_with fail
  exact HFIN.out
end
end Go.Proofs.Ytlmfpkfgjfdhgaa
