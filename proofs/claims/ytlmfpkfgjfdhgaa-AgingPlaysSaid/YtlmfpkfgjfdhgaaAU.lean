/- The reference's loses. -/
import Derived.Test.YtlmfpkfgjfdhgaaAT
import Derived.Test.YtlmfpkfgjfdhgaaAR
namespace Go.Proofs.Ytlmfpkfgjfdhgaa
open Go.RowKit

section
variable {w0 w : World} {D0 : List Nat} {p : Nat} {wd : Bool} {M M' : List Mb} {K K' : List Lk} (l : List Asn) {r : List Asn} [Stables l] [Stables r]
theorem Mem.rowSet2 {E k g n c : Nat} {xs : List Value} (h : Mem w0 D0 w (l ++ RowA E k (some ⟨g, 0, none⟩) n c xs :: r)) (i j : Nat) (u v : Value) : Mem w0 D0 ((w.setCell ⟨g, i, none⟩ u).setCell ⟨g, j, none⟩ v) (l ++ RowA E k (some ⟨g, 0, none⟩) n c ((xs.set i u).set j v) :: r) := by
  obtain ⟨D, ⟨rfl, hr⟩, kk⟩ := Mem.focus l h
  exact kk [RowA E k (some ⟨g, 0, none⟩) n c ((xs.set i u).set j v)] _ (blkOf (some ⟨g, 0, none⟩)) (all_one ⟨rfl, Row.setCell (Row.setCell hr i u) j v⟩) ⟨(Touch.setCell (bs := blkOf (some ⟨g, 0, none⟩)) _ ⟨g, i, none⟩ u (by simp [blkOf])).andThen (Touch.setCell _ _ _ (by simp [blkOf])), fun x hx => .inl hx⟩
theorem rpost_at {e0 : Ending} (h : Mem w0 D0 w (l ++ RefA p wd M K :: r)) {f : Nat} {args : Array Value}
    (hc : ∀ D, RefA p wd M K w D → Calls Try.prog f args w (RPost p wd M' K' w D e0)) : Calls Try.prog f args w fun e w' => e = e0 ∧ Mem w0 D0 w' (l ++ RefA p wd M' K' :: r) := by
  refine (Mem.call l h (Q := fun e As => e = e0 ∧ As = [RefA p wd M' K']) fun D hA => (hc D hA).mono ?_).mono ?_
  · rintro e w' ⟨he, D', h1, h2⟩
    exact ⟨_, D', ⟨he, rfl⟩, all_one h1, h2⟩
  · rintro e w' ⟨As, ⟨he, rfl⟩, hm⟩
    exact ⟨he, hm⟩
/-- what two stores into a member leave. -/
theorem ref_store {D : List Nat} (h : RefA p wd M K w D) {q : Nat} (hl : q < M.length) (b : Bool) (s : ByteArray) :
    ∃ g lc, w.cell? ⟨p, 1, none⟩ = some (.slice (some ⟨g, 0, none⟩) M.length lc) ∧ ((∃ v, w.cell? ⟨g, q * 4 + 2, none⟩ = some v) ∧ w.frozen? ⟨g, q * 4 + 2, none⟩ = false) ∧ ((∃ v, w.cell? ⟨g, q * 4 + 3, none⟩ = some v) ∧ w.frozen? ⟨g, q * 4 + 3, none⟩ = false) ∧
      (∃ D', RefA p wd (M.set q ⟨M[q].id, M[q].stamp, b, s⟩) K ((w.setCell ⟨g, q * 4 + 2, none⟩ (.bool b)).setCell ⟨g, q * 4 + 3, none⟩ (.string s)) D' ∧ Step w D ((w.setCell ⟨g, q * 4 + 2, none⟩ (.bool b)).setCell ⟨g, q * 4 + 3, none⟩ (.string s)) D') ∧
      (∃ D', RefA p wd (M.set q ⟨M[q].id, M[q].stamp, b, s⟩) K ((w.setCell ⟨g, q * 4 + 3, none⟩ (.string s)).setCell ⟨g, q * 4 + 2, none⟩ (.bool b)) D' ∧ Step w D ((w.setCell ⟨g, q * 4 + 3, none⟩ (.string s)).setCell ⟨g, q * 4 + 2, none⟩ (.bool b)) D') := by
  obtain ⟨la, lc, ka, kc, hA⟩ := h
  have Mm := Mem.ofAll hA
  have hrow := Mem.rowAt [BlockA p #[.bool wd, .slice la M.length lc, .slice ka K.length kc] 53] (r := [RowA 91 2 ka K.length kc (lkFlat K)]) Mm
  obtain ⟨g, rfl, -⟩ := mbAt_row hrow q hl
  have hc := (Mem.cellAt (i := 1) [] (r := [RowA 61 4 (some ⟨g, 0, none⟩) M.length lc (mbFlat M), RowA 91 2 ka K.length kc (lkFlat K)]) Mm rfl).1
  have hz : ∀ j, j < 4 → (∃ v, w.cell? ⟨g, q * 4 + j, none⟩ = some v) ∧ w.frozen? ⟨g, q * 4 + j, none⟩ = false := fun j hj => by
    rcases hrow.out with ⟨e, _⟩ | ⟨g', cur, e, hg, h1, h2, h3, h4, h5⟩
    · cases e
    · obtain rfl : g = g' := by simpa using e
      have hlt : q * 4 + j < cur.size := by omega
      obtain ⟨c1, c2⟩ := cell_of_heap (i := q * 4 + j) (v := cur[q * 4 + j]) hg (by simp [hlt])
      exact ⟨⟨_, c1⟩, c2⟩
  refine ⟨g, lc, hc, hz 2 (by omega), hz 3 (by omega), ?_, ?_⟩
  · have h1 := Mem.rowSet2 [BlockA p #[.bool wd, .slice (some ⟨g, 0, none⟩) M.length lc, .slice ka K.length kc] 53] (r := [RowA 91 2 ka K.length kc (lkFlat K)]) Mm (q * 4 + 2) (q * 4 + 3) (.bool b) (.string s)
    rw [mbFlat_set M _ hl] at h1
    obtain ⟨D', q1, q2⟩ := h1.out
    exact ⟨D', ⟨_, lc, ka, kc, by rw [List.length_set]; exact q1⟩, q2⟩
  · have h1 := Mem.rowSet2 [BlockA p #[.bool wd, .slice (some ⟨g, 0, none⟩) M.length lc, .slice ka K.length kc] 53] (r := [RowA 91 2 ka K.length kc (lkFlat K)]) Mm (q * 4 + 3) (q * 4 + 2) (.string s) (.bool b)
    rw [mbFlat_set' M _ hl] at h1
    obtain ⟨D', q1, q2⟩ := h1.out
    exact ⟨D', ⟨_, lc, ka, kc, by rw [List.length_set]; exact q1⟩, q2⟩
/-- .. beside other things. -/
theorem mem_store (h : Mem w0 D0 w (l ++ RefA p wd M K :: r)) {q : Nat} (hl : q < M.length) (b : Bool) (s : ByteArray) :
    ∃ g lc, w.cell? ⟨p, 1, none⟩ = some (.slice (some ⟨g, 0, none⟩) M.length lc) ∧ ((∃ v, w.cell? ⟨g, q * 4 + 2, none⟩ = some v) ∧ w.frozen? ⟨g, q * 4 + 2, none⟩ = false) ∧ ((∃ v, w.cell? ⟨g, q * 4 + 3, none⟩ = some v) ∧ w.frozen? ⟨g, q * 4 + 3, none⟩ = false) ∧
      Mem w0 D0 ((w.setCell ⟨g, q * 4 + 2, none⟩ (.bool b)).setCell ⟨g, q * 4 + 3, none⟩ (.string s)) (l ++ RefA p wd (M.set q ⟨M[q].id, M[q].stamp, b, s⟩) K :: r) ∧
      Mem w0 D0 ((w.setCell ⟨g, q * 4 + 3, none⟩ (.string s)).setCell ⟨g, q * 4 + 2, none⟩ (.bool b)) (l ++ RefA p wd (M.set q ⟨M[q].id, M[q].stamp, b, s⟩) K :: r) := by
  obtain ⟨D, hA, kk⟩ := Mem.focus l h
  obtain ⟨g, lc, h1, h2, h3, ⟨D1, h4, h5⟩, ⟨D2, h6, h7⟩⟩ := ref_store hA hl b s
  exact ⟨g, lc, h1, h2, h3, kk [_] _ D1 (all_one h4) h5, kk [_] _ D2 (all_one h6) h7⟩
theorem mem_rplace (h : Mem w0 D0 w (l ++ RefA p wd M K :: r)) (ok : TOk M K) (id : Int) :
    Calls Try.prog 44 #[.pointer (some ⟨p, 0, none⟩), .int .i64 id] w fun e w' => e = .returned (.int .i64 (placeI M id)) ∧ Mem w0 D0 w' (l ++ RefA p wd M K :: r) := by
  obtain ⟨D, hA⟩ := Mem.get l h
  exact (rf_place p wd M K id w D hA ok.sm ok.fm).mono fun e w' ⟨he, hb⟩ => ⟨he, h.below hb⟩
theorem mem_rholder (h : Mem w0 D0 w (l ++ RefA p wd M K :: r)) (ok : TOk M K) (key : ByteArray) :
    Calls Try.prog 24 #[.pointer (some ⟨p, 0, none⟩), .string key] w fun e w' => e = .returned (.int .i64 (holdI K key)) ∧ Mem w0 D0 w' (l ++ RefA p wd M K :: r) := by
  obtain ⟨D, hA⟩ := Mem.get l h
  exact (rf_holder p wd M K key w D hA ok.sk ok.fk).mono fun e w' ⟨he, hb⟩ => ⟨he, h.below hb⟩
theorem mem_rholds (h : Mem w0 D0 w (l ++ RefA p wd M K :: r)) (ok : TOk M K) (id : Int) :
    Calls Try.prog 29 #[.pointer (some ⟨p, 0, none⟩), .int .i64 id] w fun e w' => ∃ a c, e = .returned (.slice a (holdsK K id).length c) ∧ Mem w0 D0 w' (RowA 9 1 a (holdsK K id).length c ((holdsK K id).map Value.string) :: (l ++ RefA p wd M K :: r)) := by
  obtain ⟨D, hA⟩ := Mem.get l h
  exact mem_row h (rf_holds p wd M K id w D hA ok.fk)
theorem mem_rwaiting (h : Mem w0 D0 w (l ++ RefA p wd M K :: r)) (ok : TOk M K) (key : ByteArray) :
    Calls Try.prog 27 #[.pointer (some ⟨p, 0, none⟩), .string key] w fun e w' => ∃ S a c, S.Perm (waitM M key) ∧ ByAge S ∧ e = .returned (.slice a S.length c) ∧ Mem w0 D0 w' (RowA 3 1 a S.length c ((S.map (·.id)).map (Value.int .i64)) :: (l ++ RefA p wd M K :: r)) := by
  obtain ⟨D, hA⟩ := Mem.get l h
  refine (rf_waiting p wd M K key w D hA ok.fm).mono ?_
  rintro e w' ⟨v, S, he, hp, hy, a, c, hv, hr, hb, hf⟩
  have e2 : idsFlat S = (S.map (·.id)).map (Value.int .i64) := by
    unfold idsFlat
    rw [List.map_map]
    clear hr hp hy he hv
    induction S with
    | nil => rfl
    | cons t r ih => rw [List.flatMap_cons, ih]; rfl
  rw [e2] at hr
  exact ⟨S, a, c, hp, hy, by rw [he, hv], h.new hb (As := [RowA 3 1 a S.length c _]) (all_one ⟨rfl, hr⟩) hf⟩
theorem mem_rset (h : Mem w0 D0 w (l ++ RefA p wd M K :: r)) (ok : TOk M K) (key : ByteArray) (id : Int) (he : setF K key id = K') :
    Calls Try.prog 46 #[.pointer (some ⟨p, 0, none⟩), .string key, .int .i64 id] w fun e w' => e = .returned (.tuple #[]) ∧ Mem w0 D0 w' (l ++ RefA p wd M K' :: r) :=
  rpost_at l h fun D hA => by subst he; exact rf_set p wd M K key id w D hA ok.fk
theorem mem_rwd (h : Mem w0 D0 w (l ++ RefA p wd M K :: r)) : w.cell? ⟨p, 0, none⟩ = some (.bool wd) := by
  obtain ⟨D, hA⟩ := Mem.get l h
  obtain ⟨_, _, _, _, h0, _⟩ := hA.parts
  exact h0
end
theorem placeI_has {M : List Mb} {id : Int} (h : hasM M id = true) : placeI M id = (posM M id : Int) := by unfold placeI; rw [if_pos h]
end Go.Proofs.Ytlmfpkfgjfdhgaa
