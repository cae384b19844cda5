/- Join. -/
import Derived.Test.YtlmfpkfgjfdhgaaP
namespace Go.Proofs.Ytlmfpkfgjfdhgaa
open Go.RowKit

def insAt {α : Type} (l : List α) (q : Nat) (x : α) : List α := l.take q ++ x :: l.drop q
theorem insAt_len {α : Type} {l : List α} {q : Nat} {x : α} (h : q ≤ l.length) : (insAt l q x).length = l.length + 1 := by unfold insAt; simp; omega
theorem mem_insAt {α : Type} {l : List α} {q : Nat} {x y : α} : y ∈ insAt l q x ↔ y = x ∨ y ∈ l := by
  unfold insAt
  rw [List.mem_append, List.mem_cons]
  conv => rhs; rw [← List.take_append_drop q l, List.mem_append]
  constructor
  · rintro (h | h | h) <;> simp [h]
  · rintro (h | h | h) <;> simp [h]
theorem insAt_sort {α : Type} {R : α → α → Prop} {l : List α} {q : Nat} {x : α} (hs : l.Pairwise R) (h1 : ∀ j (h : j < l.length), j < q → R l[j] x) (h2 : ∀ j (h : j < l.length), q ≤ j → R x l[j]) : (insAt l q x).Pairwise R := by
  have hs' := hs
  rw [← List.take_append_drop q l] at hs'
  obtain ⟨k1, k2, k3⟩ := List.pairwise_append.1 hs'
  refine List.pairwise_append.2 ⟨k1, List.pairwise_cons.2 ⟨fun y hy => ?_, k2⟩, fun a ha b hb => ?_⟩
  · obtain ⟨j, hj, rfl⟩ := List.getElem_of_mem hy
    rw [List.getElem_drop]
    exact h2 _ _ (by omega)
  · rcases List.mem_cons.1 hb with rfl | hb
    · obtain ⟨j, hj, rfl⟩ := List.getElem_of_mem ha
      rw [List.getElem_take]
      rw [List.length_take] at hj
      exact h1 _ _ (by omega)
    · exact k3 a ha b hb
theorem insM_sort {M : List Mb} (hs : SortM M) (t : Mb) (hh : hasM M t.id = false) : SortM (insAt M (posM M t.id) t) :=
  insAt_sort hs (fun j h hj => posM_lt _ j h hj) fun j h hj => by
    have h1 := posM_ge hs t.id j h hj
    have h2 : t.id ≠ M[j].id := fun e => by rw [e, hasM_mem (List.getElem_mem h)] at hh; cases hh
    omega
theorem mbFlat_ins (l : List Mb) (t : Mb) (k : Nat) : (mbFlat l).take (k * 4) ++ mbCells t ++ (mbFlat l).drop (k * 4) = mbFlat (insAt l k t) := by
  unfold insAt
  rw [mbFlat_take, mbFlat_drop, mbFlat_append, mbFlat_cons, List.append_assoc]
/-- one joins. -/
def joinT (M : List Mb) (id stamp : Int) : Int × List Mb :=
  if id < 0 ∨ stamp < 0 ∨ 1099511627776 < stamp then (1, M)
  else if hasM M id then (8, M)
  else if 64 ≤ M.length then (7, M)
  else (0, insAt M (posM M id) ⟨id, stamp, false, ⟨#[]⟩⟩)

theorem tb_insM (p : Nat) (wd : Bool) (la : Option Addr) (lc : Nat) (M : List Mb) (ka : Option Addr) (kc : Nat) (K : List Lk) (q : Nat) (hq : q ≤ M.length) (t : Mb) (w : World) (h : Tb w p wd la lc M ka kc K) (hbig : M.length ≤ 1000) (e0 : Ending) (W : World) (hb : Below w.heap.size w W) (vb : Nat)
    (hv : W.heap[vb]? = some (.cells (mbCells t).toArray 77 (0, 0))) (hvb : w.heap.size ≤ vb) :
    Calls Try.prog 35 #[.slice la M.length lc, .int .i64 q, .slice (some ⟨vb, 0, none⟩) 1 1] W (fun e W' => ∃ a' n' c', e = .returned (.slice a' n' c') ∧ (∃ v, W'.cell? ⟨p, 1, none⟩ = some v) ∧ W'.frozen? ⟨p, 1, none⟩ = false ∧
      TPost w (tbD p la ka) p wd e0 (insAt M q t) K e0 (W'.setCell ⟨p, 1, none⟩ (.slice a' n' c'))) := by
  have h2 := h.below hb
  have hlt : ∀ x ∈ blkOf la, x < w.heap.size := fun x hx => by obtain ⟨y, hy, rfl⟩ := mem_blkOf.1 hx; exact h.rm.lt y hy
  refine (insM_any la M.length lc q vb (mbFlat M) (mbCells t) W h2.rm hv rfl (fun h => by have := hlt _ h; omega) (mbFlat_one M) (by simp [mbCells, Value.oneCell']) hq (by omega)).mono ?_
  rintro e W' ⟨a', c', rfl, hrow, ht, hf⟩
  have hlen := insAt_len (x := t) hq
  rw [mbFlat_ins, ← hlen] at hrow
  have hp := Touch.heap ht h2.hp h2.nm
  obtain ⟨k1, k2⟩ := h2.setM hrow ht hf
  rw [hlen] at k1 k2
  exact ⟨_, _, _, rfl, ⟨_, (cell_of_heap (i := 1) hp rfl).1⟩, (cell_of_heap (i := 1) hp rfl).2, rfl, _, ⟨_, _, _, _, rfl, k1⟩, (Step.of_below hb _).trans k2⟩

set_option maxRecDepth 100000 in
set_option maxHeartbeats 4000000 in
theorem tb_join_bad (p : Nat) (wd : Bool) (M : List Mb) (K : List Lk) (id stamp : Int) (w : World) (D : List Nat) (h : TbA p wd M K w D) (hbad : id < 0 ∨ stamp < 0 ∨ 1099511627776 < stamp) :
    Calls Try.prog 10 #[.pointer (some ⟨p, 0, none⟩), .int .i64 id, .int .i64 stamp] w (TPost w D p wd (.returned (.int .i64 1)) M K) := by
  have HFIN := Lib.hid fun w1 (hb : Below w.heap.size w w1) => (show TPost w D p wd (.returned (.int .i64 1)) M K (.returned (.int .i64 1)) w1 from ⟨rfl, _, Stable.keep h (fun x hx => hb.block x (Stable.lt h x hx)), Step.of_below hb _⟩)
  generalize TPost w D p wd (.returned (.int .i64 1)) M K = R at *
  clear h
  have h0 : Below w.heap.size w w := Below.refl _ _
  by_cases h1 : id < 0
  · go_enter Try.func10, Try.ntmps10
    go_wp2_with fail
    exact HFIN.out _ h0
  · by_cases h2 : stamp < 0
    · go_enter Try.func10, Try.ntmps10
      go_wp2_with fail
      exact HFIN.out _ h0
    · have h3 : 1099511627776 < stamp := by omega
      go_enter Try.func10, Try.ntmps10
      go_wp2_with fail
      exact HFIN.out _ h0
set_option maxRecDepth 100000 in
set_option maxHeartbeats 4000000 in
theorem tb_join_ok (p : Nat) (wd : Bool) (M : List Mb) (K : List Lk) (id stamp : Int) (hok : TOk M K) (w : World) (D : List Nat) (h : TbA p wd M K w D) (h1 : ¬ id < 0) (h2 : ¬ stamp < 0) (h3 : ¬ 1099511627776 < stamp) :
    Calls Try.prog 10 #[.pointer (some ⟨p, 0, none⟩), .int .i64 id, .int .i64 stamp] w (TPost w D p wd (.returned (.int .i64 (if hasM M id then (8, M) else if 64 ≤ M.length then (7, M) else (0, insAt M (posM M id) ⟨id, stamp, false, ⟨#[]⟩⟩)).1)) (if hasM M id then ((8 : Int), M) else if 64 ≤ M.length then (7, M) else (0, insAt M (posM M id) ⟨id, stamp, false, ⟨#[]⟩⟩)).2 K) := by
  obtain ⟨la, lc, ka, kc, rfl, ht⟩ := h
  have HP := Lib.hid (tb_find p wd la lc M ka kc K id w ht hok.sm hok.fm)
  have HFIN := Lib.hid fun e0 w1 (hb : Below w.heap.size w w1) => (show TPost w (tbD p la ka) p wd e0 M K e0 w1 from ⟨rfl, _, ⟨_, _, _, _, rfl, ht.below hb⟩, Step.of_below hb _⟩)
  cases hh : hasM M id with
  | true =>
    rw [hh] at HP
    simp only [if_true]
    generalize TPost w (tbD p la ka) p wd = R at *
    clear ht hok
    go_enter Try.func10, Try.ntmps10
    go_wp2_with fail
    refine HP.out.mono ?_
    rintro e w1 ⟨rfl, hb⟩
    have HB := Lib.hid hb
    clear hb
    go_wp2_with fail
    exact HFIN.out _ _ HB.out
  | false =>
    rw [hh] at HP
    simp only [Bool.false_eq_true, if_false]
    have HT := Lib.hid ht
    have HI := Lib.hid fun W (hb : Below w.heap.size w W) vb hv hvb => tb_insM p wd la lc M ka kc K (posM M id) (posBy_le _ _) ⟨id, stamp, false, ⟨#[]⟩⟩ w ht hok.fm (.returned (.int .i64 0)) W hb vb hv hvb
    simp only [mbCells] at HI
    have hnm := ht.lt p (by simp [tbD])
    have HN := Lib.hid hnm
    have hq : (posM M id : Int) ≤ 1000 := by have := hok.fm; have := posBy_le (fun m : Mb => decide (m.id < id)) M; unfold posM; omega
    have hn : (M.length : Int) ≤ 1000 := by have := hok.fm; omega
    by_cases h64 : 64 ≤ M.length
    · rw [if_pos h64]
      have h64' : (64 : Int) ≤ (M.length : Int) := by omega
      clear HI ht hok
      generalize TPost w (tbD p la ka) p wd = R at *
      go_enter Try.func10, Try.ntmps10
      go_wp2_with fail
      refine HP.out.mono ?_
      rintro e w1 ⟨rfl, hb⟩
      have hc := (HT.out.below hb).cell1.1
      have HB := Lib.hid hb
      clear hb
      go_wp2_with fail
      exact HFIN.out _ _ HB.out
    · rw [if_neg h64]
      have h64' : ¬ (64 : Int) ≤ (M.length : Int) := by omega
      clear ht hok HFIN
      generalize TPost w (tbD p la ka) p wd (.returned (.int .i64 0)) (insAt M (posM M id) ⟨id, stamp, false, ⟨#[]⟩⟩) K = R at *
      go_enter Try.func10, Try.ntmps10
      go_wp2_with fail
      refine HP.out.mono ?_
      rintro e w1 ⟨rfl, hb⟩
      have hc := (HT.out.below hb).cell1.1
      have hps : ¬ p = w1.heap.size := by have := hb.size; have := HN.out; omega
      have HI2 := Lib.hid (HI.out ((w1.alloc (.cells #[Value.int .i64 id, .int .i64 stamp, .bool false, .string ⟨#[]⟩] 77))) (hb.trans (Below.alloc (Below.refl _ _) (hb.size) _)) w1.heap.size (by show (w1.heap.push _)[w1.heap.size]? = _; rw [Array.getElem?_push, if_pos rfl]) hb.size)
      have HB := Lib.hid hb
      clear hb HI
      go_wp2_with fail
      refine HI2.out.mono ?_
      rintro e w3 ⟨a', n', c', rfl, ⟨v3, hc3⟩, hf3, hfin⟩
      have HFIN := Lib.hid hfin
      clear hfin
      go_wp2_with fail
      exact HFIN.out
theorem tb_join (p : Nat) (wd : Bool) (M : List Mb) (K : List Lk) (id stamp : Int) (hok : TOk M K) (w : World) (D : List Nat) (h : TbA p wd M K w D) :
    Calls Try.prog 10 #[.pointer (some ⟨p, 0, none⟩), .int .i64 id, .int .i64 stamp] w (TPost w D p wd (.returned (.int .i64 (joinT M id stamp).1)) (joinT M id stamp).2 K) := by
  unfold joinT
  by_cases hbad : id < 0 ∨ stamp < 0 ∨ 1099511627776 < stamp
  · rw [if_pos hbad]; exact tb_join_bad p wd M K id stamp w D h hbad
  · rw [if_neg hbad]; exact tb_join_ok p wd M K id stamp hok w D h (by omega) (by omega) (by omega)
theorem joinT_ok {M : List Mb} {K : List Lk} {id stamp : Int} (h : TOk M K) : TOk (joinT M id stamp).2 K := by
  unfold joinT
  split
  · exact h
  · split
    · exact h
    · split
      · exact h
      · rename_i h1 h2
        exact ⟨insM_sort h.sm ⟨id, stamp, false, ⟨#[]⟩⟩ (by simpa using h1), h.sk, by have hle : posM M id ≤ M.length := posBy_le _ _; show (insAt M (posM M id) _).length ≤ 1000; rw [insAt_len hle]; omega, h.fk⟩
end Go.Proofs.Ytlmfpkfgjfdhgaa
