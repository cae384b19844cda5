/- loses. -/
import Derived.Test.YtlmfpkfgjfdhgaaM
namespace Go.Proofs.Ytlmfpkfgjfdhgaa
open Go.RowKit

/-- what holds of members and locks. -/
structure TOk (M : List Mb) (K : List Lk) : Prop where
  sm : SortM M
  sk : SortK K
  fm : M.length ≤ 1000
  fk : K.length ≤ 100000
theorem restM_ids (M : List Mb) (id : Int) : (restM M id).map (·.id) = M.map (·.id) := by
  unfold restM
  apply List.ext_getElem
  · simp
  · intro j h1 h2
    simp only [List.getElem_map, List.getElem_modify]
    split <;> rfl
theorem sortM_ids {M M' : List Mb} (h : SortM M) (e : M'.map (·.id) = M.map (·.id)) : SortM M' := by
  have h1 : (M.map (·.id)).Pairwise (· < ·) := List.pairwise_map.2 h
  rw [← e] at h1
  exact List.pairwise_map.1 h1
theorem hasM_ids {M M' : List Mb} (e : M'.map (·.id) = M.map (·.id)) (id : Int) : hasM M' id = hasM M id := by
  have h : ∀ L : List Mb, hasM L id = (L.map (·.id)).any fun x => x == id := fun L => by unfold hasM; rw [List.any_map]; rfl
  rw [h, h, e]
theorem giveT_ids (wd : Bool) (M : List Mb) (K : List Lk) (key : ByteArray) : (giveT wd M K key).1.map (·.id) = M.map (·.id) := by
  unfold giveT
  split
  · rfl
  · exact restM_ids _ _
theorem modK_keys (K : List Lk) (q : Nat) (x : Int) : (K.modify q fun l => ⟨l.key, x⟩).map (·.key) = K.map (·.key) := by
  apply List.ext_getElem
  · simp
  · intro j h1 h2
    simp only [List.getElem_map, List.getElem_modify]
    split <;> rfl
theorem sortK_keys {K K' : List Lk} (h : SortK K) (e : K'.map (·.key) = K.map (·.key)) : SortK K' := by
  have h1 : (K.map (·.key)).Pairwise (fun a b => ltS a b = true) := List.pairwise_map.2 h
  rw [← e] at h1
  exact List.pairwise_map.1 h1
theorem giveT_ok {wd : Bool} {M : List Mb} {K : List Lk} {key : ByteArray} (h : TOk M K) : TOk (giveT wd M K key).1 (giveT wd M K key).2 := by
  have hl : (giveT wd M K key).1.length = M.length := by have := congrArg List.length (giveT_ids wd M K key); simpa using this
  refine ⟨sortM_ids h.sm (giveT_ids wd M K key), ?_, by rw [hl]; exact h.fm, ?_⟩
  · unfold giveT
    split
    · exact h.sk.sublist (List.eraseIdx_sublist _ _)
    · exact sortK_keys h.sk (modK_keys _ _ _)
  · unfold giveT
    have := h.fk
    split
    · exact Nat.le_trans (List.length_eraseIdx_le _ _) this
    · simpa using this
/-- other keys stay. -/
theorem giveT_has {wd : Bool} {M : List Mb} {K : List Lk} {key k : ByteArray} (h : SortK K) (hk : hasK K key = true) (hne : k ≠ key) : hasK (giveT wd M K key).2 k = hasK K k := by
  unfold giveT
  split
  · obtain ⟨hl, he⟩ := (hasK_iff h key).1 hk
    unfold hasK
    rw [Bool.eq_iff_iff, List.any_eq_true, List.any_eq_true]
    constructor
    · rintro ⟨x, hx, e⟩; exact ⟨x, List.mem_of_mem_eraseIdx hx, e⟩
    · rintro ⟨x, hx, e⟩
      refine ⟨x, ?_, e⟩
      rw [List.mem_eraseIdx_iff_getElem]
      obtain ⟨j, hj, rfl⟩ := List.getElem_of_mem hx
      refine ⟨j, hj, fun e2 => ?_, rfl⟩
      subst e2
      have e3 : K[posK K key].key = k := by simpa using e
      exact hne (e3.symm.trans he)
  · have hg : ∀ L : List Lk, hasK L k = (L.map (·.key)).any fun x => decide (x = k) := fun L => by unfold hasK; rw [List.any_map]; rfl
    rw [hg, hg, modK_keys]
theorem tb_give (p : Nat) (wd : Bool) (M : List Mb) (K : List Lk) (key : ByteArray) (hok : TOk M K) (hh : hasK K key = true) (w : World) (D : List Nat) (h : TbA p wd M K w D) :
    Calls Try.prog 58 #[.pointer (some ⟨p, 0, none⟩), .string key] w (TPost w D p wd (.returned (.tuple #[])) (giveT wd M K key).1 (giveT wd M K key).2) := by
  obtain ⟨la, lc, ka, kc, rfl, ht⟩ := h
  unfold giveT
  cases hw : waitM M key with
  | nil => exact tb_give_none p wd la lc M ka kc K key w ht hok.sk hok.fm hok.fk hh hw
  | cons x0 r => exact tb_give_some p wd la lc M ka kc K key w ht hok.sm hok.sk hok.fm hok.fk hh x0 r hw
theorem tpost_mem {w0 w : World} {D0 : List Nat} {p : Nat} {wd : Bool} {M M' : List Mb} {K K' : List Lk} {e0 : Ending} {r : List Asn} [Stables r] (h : Mem w0 D0 w (TbA p wd M K :: r)) {f : Nat} {args : Array Value}
    (hc : ∀ D, TbA p wd M K w D → Calls Try.prog f args w (TPost w D p wd e0 M' K')) : Calls Try.prog f args w fun e w' => e = e0 ∧ Mem w0 D0 w' (TbA p wd M' K' :: r) := by
  refine (Mem.call [] h (Q := fun e As => e = e0 ∧ As = [TbA p wd M' K']) fun D hA => (hc D hA).mono ?_).mono ?_
  · rintro e w' ⟨he, D', h1, h2⟩
    exact ⟨_, D', ⟨he, rfl⟩, all_one h1, h2⟩
  · rintro e w' ⟨As, ⟨he, rfl⟩, hm⟩
    exact ⟨he, hm⟩

def holdsK (K : List Lk) (id : Int) : List ByteArray := (K.filter fun l => l.holder == id).map (·.key)
/-- one loses all. -/
def gives (wd : Bool) (s : List Mb × List Lk) (ks : List ByteArray) : List Mb × List Lk := ks.foldl (fun s k => giveT wd s.1 s.2 k) s
def losesT (wd : Bool) (M : List Mb) (K : List Lk) (id : Int) : List Mb × List Lk := gives wd (restM M id, K) (holdsK K id)
theorem gives_ok {wd : Bool} : ∀ (ks : List ByteArray) (s : List Mb × List Lk), TOk s.1 s.2 → TOk (gives wd s ks).1 (gives wd s ks).2
  | [], _, h => h
  | k :: r, s, h => gives_ok r (giveT wd s.1 s.2 k) (giveT_ok h)
theorem gives_take (wd : Bool) (s : List Mb × List Lk) (ks : List ByteArray) (k : Nat) (hk : k < ks.length) : gives wd s (ks.take (k + 1)) = giveT wd (gives wd s (ks.take k)).1 (gives wd s (ks.take k)).2 ks[k] := by
  unfold gives
  rw [List.take_succ_eq_append_getElem hk, List.foldl_append]; rfl
theorem gives_has {wd : Bool} : ∀ (ks : List ByteArray) (s : List Mb × List Lk) (k : ByteArray), TOk s.1 s.2 → (∀ x ∈ ks, hasK s.2 x = true) → ks.Nodup → k ∉ ks → hasK (gives wd s ks).2 k = hasK s.2 k
  | [], _, _, _, _, _, _ => rfl
  | x :: r, s, k, h, ha, hn, hk => by
    obtain ⟨n1, n2⟩ := List.nodup_cons.1 hn
    have hx := ha x (List.mem_cons_self ..)
    have h1 := gives_has (wd := wd) r (giveT wd s.1 s.2 x) k (giveT_ok h) (fun y hy => by
      rw [giveT_has h.sk hx (fun e => n1 (e ▸ hy))]; exact ha y (List.mem_cons_of_mem _ hy)) n2 (fun hm => hk (List.mem_cons_of_mem _ hm))
    rw [show gives wd s (x :: r) = gives wd (giveT wd s.1 s.2 x) r from rfl, h1]
    exact giveT_has h.sk hx (fun e => hk (by rw [e]; exact List.mem_cons_self ..))
theorem holdsK_nodup {K : List Lk} (h : SortK K) (id : Int) : (holdsK K id).Nodup := by
  unfold holdsK
  have h1 : (K.filter fun l => l.holder == id).Pairwise fun a b => ltS a.key b.key = true := h.sublist List.filter_sublist
  refine List.pairwise_map.2 (h1.imp fun {a b} hab e => ?_)
  rw [e, ltS_irrefl] at hab; cases hab
theorem holdsK_has {K : List Lk} {id : Int} {k : ByteArray} (h : k ∈ holdsK K id) : hasK K k = true := by
  obtain ⟨l, hl, rfl⟩ := List.mem_map.1 h
  exact List.any_eq_true.2 ⟨l, (List.mem_filter.1 hl).1, by simp⟩
theorem str_flat (l : List Lk) : (l.flatMap fun t => [Value.string t.key]) = (l.map (·.key)).map Value.string := by
  induction l with
  | nil => rfl
  | cons t r ih => rw [List.flatMap_cons, ih]; rfl

set_option maxRecDepth 100000 in
set_option maxHeartbeats 4000000 in
theorem tb_loses (p : Nat) (wd : Bool) (M : List Mb) (K : List Lk) (id : Int) (hok : TOk M K) (hh : hasM M id = true) (w : World) (D : List Nat) (h : TbA p wd M K w D) :
    Calls Try.prog 36 #[.pointer (some ⟨p, 0, none⟩), .int .i64 id] w (TPost w D p wd (.returned (.tuple #[])) (losesT wd M K id).1 (losesT wd M K id).2) := by
  have M0 := Lib.hid (show Mem w D w [TbA p wd M K] from Mem.start h)
  have HRS := Lib.hid (tpost_mem (e0 := .returned (.tuple #[])) (M' := restM M id) (K' := K) M0.out (f := 57) (args := #[.pointer (some ⟨p, 0, none⟩), .int .i64 id]) fun D hA => by
    obtain ⟨la, lc, ka, kc, rfl, ht⟩ := hA
    exact tb_rests p wd la lc M ka kc K id w ht hok.sm hok.fm hh)
  have hok1 : TOk (restM M id) K := ⟨sortM_ids hok.sm (restM_ids M id), hok.sk, by have := congrArg List.length (restM_ids M id); simp only [List.length_map] at this; rw [this]; exact hok.fm, hok.fk⟩
  have HHO := Lib.hid fun w1 D1 (hA : TbA p wd (restM M id) K w1 D1) => (show Calls Try.prog 19 #[.pointer (some ⟨p, 0, none⟩), .int .i64 id] w1 (fun e w' => ∃ v, e = .returned v ∧ NewRow 9 1 w1 ((holdsK K id).map Value.string) (holdsK K id).length v w') from by
    obtain ⟨la, lc, ka, kc, rfl, ht⟩ := hA
    have := tb_holds p wd la lc _ ka kc K id w1 ht hok.fk
    rw [str_flat] at this
    unfold holdsK
    rw [List.length_map]
    exact this)
  have hkn := holdsK_nodup hok.sk id
  have hkh : ∀ k ∈ holdsK K id, hasK K k = true := fun k hk => holdsK_has hk
  have hkl : (holdsK K id).length ≤ 100000 := by unfold holdsK; rw [List.length_map]; exact Nat.le_trans (List.length_filter_le _ _) hok.fk
  unfold losesT
  generalize holdsK K id = ks at *
  have HOK := Lib.hid hok1
  have HKN := Lib.hid hkn
  have HKH := Lib.hid hkh
  have HFIN := Lib.hid fun w' (hm : Mem w D w' [TbA p wd (gives wd (restM M id, K) (ks.take ks.length)).1 (gives wd (restM M id, K) (ks.take ks.length)).2]) => (show TPost w D p wd (.returned (.tuple #[])) (gives wd (restM M id, K) ks).1 (gives wd (restM M id, K) ks).2 (.returned (.tuple #[])) w' from by
    rw [List.take_length] at hm
    obtain ⟨D', ⟨D1, D2, rfl, _, h1, h2⟩, h3⟩ := hm.out
    obtain rfl : D2 = [] := h2
    rw [List.append_nil] at h3
    exact ⟨rfl, D1, h1, h3⟩)
  generalize TPost w D p wd (.returned (.tuple #[])) (gives wd (restM M id, K) ks).1 (gives wd (restM M id, K) ks).2 = R at *
  generalize restM M id = M1 at *
  clear h hok hh hok1 hkn hkh
  generalize hn : ks.length = n at *
  have HN := Lib.hid hn
  clear hn
  go_enter Try.func36, Try.ntmps36
  go_wp2_with fail
  refine HRS.out.mono ?_
  rintro e w1 ⟨rfl, hm⟩
  have M2 := Lib.hid hm
  clear hm
  obtain ⟨D1, hD1⟩ := Mem.get [] M2.out
  have HH := Lib.hid (HHO.out w1 D1 hD1)
  clear hD1
  go_wp2_with fail
  refine HH.out.mono ?_
  rintro e w2 ⟨v, rfl, ak, ck, rfl, hr, hb, hf⟩
  have M3 := Lib.hid (show Mem w D w2 [RowA 9 1 ak n ck (ks.map Value.string), TbA p wd M1 K] from M2.out.new hb (As := [RowA 9 1 ak n ck (ks.map Value.string)]) (all_one ⟨rfl, hr⟩) hf)
  have M4 := Lib.hid (show Mem w D w2 [TbA p wd M1 K, RowA 9 1 ak n ck (ks.map Value.string)] from Mem.swap [] M3.out)
  clear hr hb hf M3
  have hz : Hid (gives wd (M1, K) (ks.take 0) = (M1, K)) := Lib.hid rfl
  go_wp2_with fail
  go_loopw [13] (fun jv wr => ∃ k : Nat, k ≤ n ∧ jv = .int .i64 k ∧ Hid (Mem w D wr [TbA p wd (gives wd (M1, K) (ks.take k)).1 (gives wd (M1, K) (ks.take k)).2, RowA 9 1 ak n ck (ks.map Value.string)])) (fun jv _ => n - (intOf jv).toNat)
  case atStart => exact ⟨0, Nat.zero_le _, rfl, Lib.hid (by rw [hz.out]; exact M4.out)⟩
  case round =>
    obtain ⟨k, hk, rfl, hS⟩ := hrel
    clear M4 M2
    by_cases hlt : k < n
    · have hk2 : k < ks.length := by rw [HN.out]; exact hlt
      obtain ⟨E, _, hrow⟩ := Mem.get [TbA p wd (gives wd (M1, K) (ks.take k)).1 (gives wd (M1, K) (ks.take k)).2] hS.out
      obtain ⟨g, rfl, hx⟩ := hrow.cellAt k (by rw [List.length_map]; exact hk2)
      rw [List.getElem_map] at hx
      have hok2 := gives_ok (wd := wd) (ks.take k) (M1, K) HOK.out
      have hhas : hasK (gives wd (M1, K) (ks.take k)).2 ks[k] = true := by
        have hnd := HKN.out
        rw [gives_has (ks.take k) (M1, K) ks[k] HOK.out (fun x hx => HKH.out x (List.mem_of_mem_take hx)) (hnd.sublist (List.take_sublist _ _)) (fun hm => by
          obtain ⟨j, hj, e⟩ := List.getElem_of_mem hm
          rw [List.getElem_take] at e
          rw [List.length_take] at hj
          exact List.pairwise_iff_getElem.1 hnd j k (by omega) hk2 (by omega) e)]
        exact HKH.out _ (List.getElem_mem hk2)
      have HC := Lib.hid (tpost_mem (e0 := .returned (.tuple #[])) hS.out (f := 58) (args := #[.pointer (some ⟨p, 0, none⟩), .string ks[k]]) fun D hA => tb_give p wd _ _ ks[k] hok2 hhas wr D hA)
      have HT := Lib.hid (gives_take wd (M1, K) ks k hk2)
      rw [← HT.out] at HC
      clear hrow hok2 hhas hS
      generalize ks[k] = kk at *
      go_wp2_with fail
      refine HC.out.mono ?_
      rintro e w3 ⟨rfl, hm⟩
      have M5 := Lib.hid hm
      clear hm
      go_wp2_with fail
      go_roundw
      case rel => exact ⟨k + 1, by omega, by go_num, M5⟩
      case measure => simp [intOf]; omega
    · obtain rfl : k = n := by omega
      have HF := Lib.hid (HFIN.out wr (Mem.drop [TbA p wd (gives wd (M1, K) (ks.take k)).1 (gives wd (M1, K) (ks.take k)).2] hS.out))
      clear hS
      go_wp2_with fail
      go_end0
      exact HF.out
end Go.Proofs.Ytlmfpkfgjfdhgaa
