/- Leave's two tests; DeleteFunc beside other things. -/
import Derived.Test.YtnemgmlhcjhdhaaR
namespace Go.Proofs.Ytnemgmlhcjhdhaa
open Go.RowKit
set_option maxRecDepth 100000 in
set_option maxHeartbeats 800000 in
theorem mine_any (bi : Nat) (o : Int) (x : Hd) (W : World) (h : W.heap[bi]? = some (.cells #[.int .i64 o] 3 (0, 0))) :
    Calls Try.prog 37 #[.agg #[.int .i64 x.owner, .int .i64 x.mode], .pointer (some ⟨bi, 0, none⟩)] W fun e W' => e = .returned (.bool (x.owner == o)) ∧ Below W.heap.size W W' := by
  obtain ⟨xo, xm⟩ := x
  obtain ⟨h0, -⟩ := cell_of_heap (i := 0) (v := .int .i64 o) h rfl
  have h1 := fun oo => ((bel_new W oo).cell (World.block_lt_of_cell? W _ h0)).trans h0
  clear h h0
  simp only
  go_enter Try.func37, Try.ntmps37
  go_wp2_with fail
  go_ret
  exact ⟨rfl, bel_new _ _⟩
def pL (x : Ln) : Bool := wrap64 ((x.hs.n : Int) + (x.qs.n : Int)) == 0
set_option maxRecDepth 100000 in
set_option maxHeartbeats 800000 in
theorem none_any (x : Ln) (W : World) :
    Calls Try.prog 41 #[.agg #[.string x.key, .slice x.hs.a x.hs.n x.hs.c, .slice x.qs.a x.qs.n x.qs.c]] W fun e W' => e = .returned (.bool (pL x)) ∧ Below W.heap.size W W' := by
  obtain ⟨xk, ⟨ha, hn, hc⟩, ⟨qa, qn, qc⟩⟩ := x
  unfold pL
  simp only
  go_enter Try.func41, Try.ntmps41
  go_wp2_with fail
  go_ret
  exact ⟨rfl, bel_new _ _⟩
theorem mem_blk {w : World} : ∀ {l : List Asn} {r : List Asn} {E k n c : Nat} {a : Option Addr} {xs : List Value} {D : List Nat}, All (l ++ RowA E k a n c xs :: r) w D → ∀ x ∈ blkOf a, x ∈ D := by
  intro l r E k n c a xs D h x hx
  obtain ⟨D1, D2, rfl, hd, h1, E1, E2, rfl, he, ⟨rfl, h3⟩, h4⟩ := all_append l _ h
  exact List.mem_append_right _ (List.mem_append_left _ hx)
theorem Mem.apart {w0 w : World} {D0 : List Nat} {g : Nat} {cur : Array Value} {T : TypeId} (l : List Asn) {r : List Asn} {E k n c : Nat} {a : Option Addr} {xs : List Value} (h : Mem w0 D0 w (BlockA g cur T :: (l ++ RowA E k a n c xs :: r))) : g ∉ blkOf a := by
  obtain ⟨D, ⟨D1, D2, rfl, hd, ⟨rfl, h1⟩, h2⟩, hD⟩ := h.out
  exact fun hm => hd g (by simp) (mem_blk h2 g hm)
section
variable {w0 w : World} {D0 : List Nat} (l : List Asn) {r : List Asn} [Stables l] [Stables r]
theorem mem_delH {bi : Nat} {o : Int} {s : Sl} {H : List Hd} (h : Mem w0 D0 w (BlockA bi #[.int .i64 o] 3 :: (l ++ RowH s H :: r))) (hn : H.length ≤ 1000000) :
    Calls Try.prog 38 #[slv s, .func (.func 37) #[] #[.pointer (some ⟨bi, 0, none⟩)]] w fun e w' => ∃ s', e = .returned (slv s') ∧ Mem w0 D0 w' (BlockA bi #[.int .i64 o] 3 :: (l ++ RowH s' (outH H o) :: r)) := by
  have hr := Mem.rowAt (BlockA bi #[.int .i64 o] 3 :: l) (r := r) h
  have hl := row_len hr
  have hap := Mem.apart l h
  obtain ⟨D, _, hbi⟩ := Mem.get [] (r := l ++ RowH s H :: r) h
  refine (dh_del bi (fun x => x.owner == o) (fun W => W.heap[bi]? = some (.cells #[.int .i64 o] 3 (0, 0))) (fun W W' hC hb => (Touch.of_below hb []).heap hC (by simp)) (fun x W hC => mine_any bi o x W hC) s.a (fun W W' hC ht => ht.heap hC hap) s.n s.c H w hbi hr (by omega)).mono ?_
  rintro e w' ⟨rfl, hr', ht⟩
  exact ⟨⟨s.a, (outH H o).length, s.c⟩, rfl, Mem.rowTurn (BlockA bi #[.int .i64 o] 3 :: l) (r := r) h hr' ht (Fresh.refl _ _)⟩
theorem mem_delL {la : Option Addr} {n c : Nat} {X : List Ln} (h : Mem w0 D0 w (l ++ RowA 34 3 la n c (lnFlat X) :: r)) (hn : X.length ≤ 1000000) :
    Calls Try.prog 40 #[.slice la n c, .func (.func 41) #[] #[]] w fun e w' => e = .returned (.slice la (X.filter fun x => !pL x).length c) ∧ Mem w0 D0 w' (l ++ RowA 34 3 la (X.filter fun x => !pL x).length c (lnFlat (X.filter fun x => !pL x)) :: r) := by
  have hr := Mem.rowAt l h
  have hl := lnrow_len hr
  refine (dl_del (fun x => pL x) (fun _ => True) (fun _ _ _ _ => trivial) (fun x W _ => none_any x W) la (fun _ _ _ _ => trivial) n c X w trivial hr (by omega)).mono ?_
  rintro e w' ⟨rfl, hr', ht⟩
  exact ⟨rfl, Mem.rowTurn l h hr' ht (Fresh.refl _ _)⟩
end
end Go.Proofs.Ytnemgmlhcjhdhaa
