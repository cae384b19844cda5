/- The table's calls beside other things; the fixed calls' states. -/
import Derived.Test.YtlmfpkfgjfdhgaaAC
import Derived.Test.YtlmfpkfgjfdhgaaAD
namespace Go.Proofs.Ytlmfpkfgjfdhgaa
open Go.RowKit

theorem tpost_at {w0 w : World} {D0 : List Nat} {p : Nat} {wd : Bool} {M M' : List Mb} {K K' : List Lk} {e0 : Ending} (l : List Asn) {r : List Asn} [Stables l] [Stables r] (h : Mem w0 D0 w (l ++ TbA p wd M K :: r)) {f : Nat} {args : Array Value}
    (hc : ∀ D, TbA p wd M K w D → Calls Try.prog f args w (TPost w D p wd e0 M' K')) : Calls Try.prog f args w fun e w' => e = e0 ∧ Mem w0 D0 w' (l ++ TbA p wd M' K' :: r) := by
  refine (Mem.call l h (Q := fun e As => e = e0 ∧ As = [TbA p wd M' K']) fun D hA => (hc D hA).mono ?_).mono ?_
  · rintro e w' ⟨he, D', h1, h2⟩
    exact ⟨_, D', ⟨he, rfl⟩, all_one h1, h2⟩
  · rintro e w' ⟨As, ⟨he, rfl⟩, hm⟩
    exact ⟨he, hm⟩
/-- what holds of a table. -/
structure SOk (M : List Mb) (K : List Lk) : Prop where
  ok : TOk M K
  hold : HoldOk M K
theorem SOk.nil : SOk [] [] := ⟨⟨List.Pairwise.nil, List.Pairwise.nil, by decide, by decide⟩, fun _ h => by cases h⟩
section
variable {w0 w : World} {D0 : List Nat} {p : Nat} {wd : Bool} {M M' : List Mb} {K K' : List Lk} (l : List Asn) {r : List Asn} [Stables l] [Stables r] {id stamp x y : Int} {key : ByteArray}
theorem SOk.join (h : SOk M K) (e : joinT M id stamp = (x, M')) : SOk M' K := by
  have h1 := joinT_ok (K := K) (id := id) (stamp := stamp) h.ok
  have h2 := joinT_hold (id := id) (stamp := stamp) h.hold
  rw [e] at h1 h2; exact ⟨h1, h2⟩
theorem SOk.leave (h : SOk M K) (e : leaveT wd M K id = (x, M', K')) : SOk M' K' ∧ K'.length ≤ K.length := by
  have h1 := leaveT_ok (wd := wd) (id := id) h.ok
  have h2 := leaveT_hold (wd := wd) (id := id) h.ok h.hold
  have h3 := leaveT_len (wd := wd) (M := M) (K := K) (id := id)
  rw [e] at h1 h2 h3; exact ⟨⟨h1, h2⟩, h3⟩
theorem SOk.ask (h : SOk M K) (hb : K.length < 100000) (e : askT wd M K id key = ((x, y), M', K')) : SOk M' K' ∧ K'.length ≤ K.length + 1 := by
  have h1 := askT_ok (wd := wd) (id := id) (key := key) h.ok hb
  have h2 := askT_hold (wd := wd) (id := id) (key := key) h.hold
  have h3 := askT_len (wd := wd) (M := M) (K := K) (id := id) (key := key)
  rw [e] at h1 h2 h3; exact ⟨⟨h1, h2⟩, h3⟩
theorem mem_join (h : Mem w0 D0 w (l ++ TbA p wd M K :: r)) (ok : SOk M K) (e : joinT M id stamp = (x, M')) :
    Calls Try.prog 10 #[.pointer (some ⟨p, 0, none⟩), .int .i64 id, .int .i64 stamp] w fun e w' => e = .returned (.int .i64 x) ∧ Mem w0 D0 w' (l ++ TbA p wd M' K :: r) :=
  tpost_at l h fun D hA => by have := tb_join p wd M K id stamp ok.ok w D hA; rw [e] at this; exact this
theorem mem_leave (h : Mem w0 D0 w (l ++ TbA p wd M K :: r)) (ok : SOk M K) (e : leaveT wd M K id = (x, M', K')) :
    Calls Try.prog 11 #[.pointer (some ⟨p, 0, none⟩), .int .i64 id] w fun e w' => e = .returned (.int .i64 x) ∧ Mem w0 D0 w' (l ++ TbA p wd M' K' :: r) :=
  tpost_at l h fun D hA => by have := tb_leave p wd M K id ok.ok w D hA; rw [e] at this; exact this
theorem mem_ask (h : Mem w0 D0 w (l ++ TbA p wd M K :: r)) (ok : SOk M K) (e : askT wd M K id key = ((x, y), M', K')) :
    Calls Try.prog 12 #[.pointer (some ⟨p, 0, none⟩), .int .i64 id, .string key] w fun e w' => e = two x y ∧ Mem w0 D0 w' (l ++ TbA p wd M' K' :: r) :=
  tpost_at l h fun D hA => by have := tb_ask p wd M K id key ok.ok ok.hold w D hA; rw [e] at this; exact this
theorem mem_holder (h : Mem w0 D0 w (l ++ TbA p wd M K :: r)) (ok : SOk M K) (k : ByteArray) :
    Calls Try.prog 23 #[.pointer (some ⟨p, 0, none⟩), .string k] w fun e w' => e = .returned (.tuple #[.int .i64 (holdK K k), .bool (hasK K k)]) ∧ Mem w0 D0 w' (l ++ TbA p wd M K :: r) := by
  obtain ⟨D, la, lc, ka, kc, rfl, ht⟩ := Mem.get l h
  exact (tb_holder p wd la lc M ka kc K k w ht ok.ok.sk ok.ok.fk).mono fun e w' ⟨he, hb⟩ => ⟨he, h.below hb⟩
/-- the posts of what makes a row. -/
theorem mem_row {l : List Asn} [Stables l] {E k n : Nat} {xs : List Value} (h : Mem w0 D0 w l) {f : Nat} {args : Array Value} (hc : Calls Try.prog f args w fun e w' => ∃ v, e = .returned v ∧ NewRow E k w xs n v w') :
    Calls Try.prog f args w fun e w' => ∃ a c, e = .returned (.slice a n c) ∧ Mem w0 D0 w' (RowA E k a n c xs :: l) :=
  hc.mono fun e w' ⟨v, he, a, c, hv, hr, hb, hf⟩ => ⟨a, c, by rw [he, hv], h.new hb (As := [RowA E k a n c xs]) (all_one ⟨rfl, hr⟩) hf⟩
theorem mem_edges (h : Mem w0 D0 w (l ++ TbA p wd M K :: r)) (ok : SOk M K) :
    Calls Try.prog 15 #[.pointer (some ⟨p, 0, none⟩)] w fun e w' => ∃ a c, e = .returned (.slice a (edgesOf M K).length c) ∧ Mem w0 D0 w' (RowA 44 2 a (edgesOf M K).length c (edgeFlat (edgesOf M K)) :: (l ++ TbA p wd M K :: r)) := by
  obtain ⟨D, la, lc, ka, kc, rfl, ht⟩ := Mem.get l h
  exact mem_row h (tb_edges p wd la lc M ka kc K w ht ok.ok.sk ok.ok.fm ok.ok.fk)
theorem mem_holds (h : Mem w0 D0 w (l ++ TbA p wd M K :: r)) (ok : SOk M K) (id : Int) :
    Calls Try.prog 19 #[.pointer (some ⟨p, 0, none⟩), .int .i64 id] w fun e w' => ∃ a c, e = .returned (.slice a (holdsK K id).length c) ∧ Mem w0 D0 w' (RowA 9 1 a (holdsK K id).length c ((holdsK K id).map Value.string) :: (l ++ TbA p wd M K :: r)) := by
  obtain ⟨D, la, lc, ka, kc, rfl, ht⟩ := Mem.get l h
  have := tb_holds p wd la lc M ka kc K id w ht ok.ok.fk
  rw [str_flat] at this
  unfold holdsK
  rw [List.length_map]
  exact mem_row h this
theorem mem_members (h : Mem w0 D0 w (l ++ TbA p wd M K :: r)) (ok : SOk M K) :
    Calls Try.prog 13 #[.pointer (some ⟨p, 0, none⟩)] w fun e w' => ∃ a c, e = .returned (.slice a M.length c) ∧ Mem w0 D0 w' (RowA 3 1 a M.length c ((M.map (·.id)).map (Value.int .i64)) :: (l ++ TbA p wd M K :: r)) := by
  obtain ⟨D, la, lc, ka, kc, rfl, ht⟩ := Mem.get l h
  have := tb_members p wd la lc M ka kc K w ht ok.ok.fm
  rw [show (M.filter fun t => keepAll t.id) = M from List.filter_eq_self.2 fun _ _ => rfl] at this
  have e : (M.flatMap fun t => [Value.int .i64 t.id]) = (M.map (·.id)).map (Value.int .i64) := by
    rw [List.map_map]
    clear this ht ok h
    induction M with
    | nil => rfl
    | cons t r ih => rw [List.flatMap_cons, ih]; rfl
  rw [e] at this
  exact mem_row h this
/-- who waits for a key, by age. -/
theorem mem_waitids (h : Mem w0 D0 w (l ++ TbA p wd M K :: r)) (ok : SOk M K) (key : ByteArray) :
    Calls Try.prog 26 #[.pointer (some ⟨p, 0, none⟩), .string key] w fun e w' => ∃ S a c, S.Perm (waitM M key) ∧ ByAge S ∧ e = .returned (.slice a S.length c) ∧ Mem w0 D0 w' (RowA 3 1 a S.length c ((S.map (·.id)).map (Value.int .i64)) :: (l ++ TbA p wd M K :: r)) := by
  obtain ⟨D, la, lc, ka, kc, rfl, ht⟩ := Mem.get l h
  refine (tb_waitids p wd la lc M ka kc K key w ht ok.ok.fm).mono ?_
  rintro e w' ⟨v, S, he, hp, hy, a, c, hv, hr, hb, hf⟩
  have e2 : idsFlat S = (S.map (·.id)).map (Value.int .i64) := by
    unfold idsFlat
    rw [List.map_map]
    clear hr hp hy he hv
    induction S with
    | nil => rfl
    | cons t r ih => rw [List.flatMap_cons, ih]; rfl
  rw [e2] at hr
  exact ⟨S, a, c, hp, hy, by rw [he, hv], h.new hb (As := [RowA 3 1 a S.length c _]) (all_one ⟨rfl, hr⟩) hf⟩
end

-- the fixed calls' states
abbrev ky : ByteArray := ⟨#[107]⟩
abbrev nk : ByteArray := ⟨#[]⟩
abbrev F1 : List Mb := [⟨1, 5, false, nk⟩]
abbrev F2 : List Mb := [⟨1, 5, false, nk⟩, ⟨2, 9, false, nk⟩]
abbrev F3 : List Mb := [⟨1, 5, false, nk⟩, ⟨2, 9, false, nk⟩, ⟨3, 2, false, nk⟩]
abbrev FK : List Lk := [⟨ky, 1⟩]
abbrev FD : List Mb := [⟨1, 5, false, nk⟩, ⟨2, 9, false, nk⟩, ⟨3, 2, true, ky⟩]
abbrev FW2 : List Mb := [⟨1, 5, false, nk⟩, ⟨2, 9, true, ky⟩, ⟨3, 2, false, nk⟩]
abbrev FG : List Mb := [⟨2, 9, false, nk⟩, ⟨3, 2, false, nk⟩]
abbrev FK3 : List Lk := [⟨ky, 3⟩]
theorem fj1 : joinT [] 1 5 = (0, F1) := by kernel_rfl
theorem fj2 : joinT F1 2 9 = (0, F2) := by kernel_rfl
theorem fj3 : joinT F2 3 2 = (0, F3) := by kernel_rfl
theorem fa1 (wd : Bool) : askT wd F3 [] 1 ky = ((-1, 0), F3, FK) := by cases wd <;> kernel_rfl
theorem fd2 : askT false F3 FK 2 ky = ((-1, 11), F3, FK) := by kernel_rfl
theorem fd3 : askT false F3 FK 3 ky = ((-1, 10), FD, FK) := by kernel_rfl
theorem fw2 : askT true F3 FK 2 ky = ((-1, 10), FW2, FK) := by kernel_rfl
theorem fw3 : askT true FW2 FK 3 ky = ((1, 0), FW2, FK3) := by kernel_rfl
theorem fwh : holdK FK3 ky = 3 ∧ hasK FK3 ky = true := by constructor <;> kernel_rfl
theorem fww : waitM FW2 ky = [⟨2, 9, true, ky⟩] := by kernel_rfl
theorem fdl : leaveT false FD FK 1 = (0, FG, FK3) := by kernel_rfl
theorem fdj : joinT FG 2 9 = (8, FG) := by kernel_rfl
theorem fd9 : askT false FG FK3 9 ky = ((-1, 6), FG, FK3) := by kernel_rfl
theorem fde : edgesOf FG FK3 = [] := by kernel_rfl
theorem fwe : edgesOf FW2 FK3 = [(2, 3)] := by kernel_rfl
end Go.Proofs.Ytlmfpkfgjfdhgaa
