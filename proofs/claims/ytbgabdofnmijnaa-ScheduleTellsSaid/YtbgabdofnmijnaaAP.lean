/- The document's Edges, walked. -/
import Derived.Test.YtbgabdofnmijnaaAO
namespace Go.Proofs.Ytbgabdofnmijnaa
open Go.RowKit
noncomputable def egRow (l : List Mk) (A : List Int) (p : Int) (j : Nat) : List Eg := ((A.take j).filter (edgeQ l p)).map (Eg.mk p)
noncomputable def egUp (l : List Mk) (A : List Int) (i : Nat) : List Eg := (A.take i).flatMap fun p => egRow l A p A.length
theorem egRow_succ (l : List Mk) (A : List Int) (p : Int) (j : Nat) (h : j < A.length) : egRow l A p (j + 1) = egRow l A p j ++ if edgeQ l p A[j] then [⟨p, A[j]⟩] else [] := by
  unfold egRow
  rw [List.take_succ_eq_append_getElem h, List.filter_append, List.map_append, List.filter_cons]
  cases edgeQ l p A[j] <;> rfl
theorem egUp_succ (l : List Mk) (A : List Int) (i : Nat) (h : i < A.length) : egUp l A (i + 1) = egUp l A i ++ egRow l A A[i] A.length := by
  unfold egUp
  rw [List.take_succ_eq_append_getElem h, List.flatMap_append]; simp
noncomputable def edgesRef (l : List Mk) : List Eg := egUp l (allM l) (allM l).length
set_option maxRecDepth 100000 in
set_option maxHeartbeats 16000000 in
theorem redges_any (a : Option Addr) (n c : Nat) (l : List Mk) (w : World) (h : MksAt w a n l) (hn : n ≤ 300) (hnc : n ≤ c) (hR : RightP l) : Calls Try.prog 22 #[.slice a n c] w fun e w' => ∃ b d, e = .returned (.slice b (edgesRef l).length d) ∧ Made w (RowE b d (edgesRef l)) w' := by
  have HA := Lib.hid fun W (hb : Below w.heap.size w W) => rall_any a n c l W (h.below hb) (by omega) hnc hR
  have HEG := Lib.hid fun p q W (hb : Below w.heap.size w W) => redge_is a n c l p q W (h.below hb) (by omega) hnc hR
  have hAl : (allM l).length ≤ 300 := by have := allM_len l; have := h.1; omega
  clear h hR
  unfold edgesRef
  generalize allM l = A at *
  go_enter Try.func22, Try.ntmps22
  go_wp2_with fail
  refine (HA.out _ (Below.refl _ _)).mono ?_
  rintro e w1 ⟨ba, da, rfl, hm1⟩
  have M0 := Lib.hid (show Mem w [] w1 ([RowA 42 2 none 0 0 (egFlat (egUp l A 0))] ++ [RowI ba da A]) from hm1.mem.new (Below.refl _ _) (As := [RowA 42 2 none 0 0 []]) (all_one ⟨rfl, Row.nil _ _ _⟩) (by simp [blkOf]))
  clear hm1
  go_wp2_with fail
  go_loopw [3, 11] (fun v jv wr => ∃ i b d m, i ≤ A.length ∧ m ≤ i * 300 ∧ v = .slice b m d ∧ jv = .int .i64 (i : Nat) ∧ Hid (m = (egUp l A i).length ∧ Mem w [] wr [RowA 42 2 b m d (egFlat (egUp l A i)), RowI ba da A])) (fun _ jv _ => A.length - (intOf jv).toNat)
  case atStart => exact ⟨0, none, 0, 0, Nat.zero_le _, Nat.zero_le _, rfl, rfl, Lib.hid ⟨rfl, M0.out⟩⟩
  case round =>
    obtain ⟨W1, rfl⟩ : ∃ W1, W1 = wr := ⟨_, rfl⟩
    obtain ⟨i, b, d, m, hi, hmi, rfl, rfl, HS⟩ := hrel
    clear M0
    have HM := Lib.hid HS.out.1
    have M1 := Lib.hid HS.out.2
    clear HS
    by_cases hlt : i < A.length
    · obtain ⟨ga, rfl, hca⟩ := (Mem.rowAt [RowA 42 2 b m d (egFlat (egUp l A i))] (r := []) M1.out).cellAt i (by simpa [intsV] using hlt)
      rw [show (intsV A)[i]'(by simpa [intsV] using hlt) = .int .i64 A[i] by simp [intsV]] at hca
      have HU := Lib.hid (egUp_succ l A i hlt)
      have HA2 := Lib.hid (HA.out _ M1.out.bel)
      generalize A[i] = p at *
      go_wp2_with fail
      refine HA2.out.mono ?_
      rintro e w2 ⟨bb, db, rfl, hm2⟩
      have M2 := Lib.hid (show Mem w [] w2 ([] ++ RowI bb db A :: [RowA 42 2 b m d (egFlat (egUp l A i ++ egRow l A p 0)), RowI (some ⟨ga, 0, none⟩) da A]) from by
        rw [show egRow l A p 0 = [] from rfl, List.append_nil]; exact M1.out.made hm2)
      have HE0 : Hid (m + (egRow l A p 0).length = m) := Lib.hid rfl
      clear hm2 HA2 hca M1
      go_wp2_with fail
      go_loopw [3, 18] (fun v jv wr => ∃ q b' d' mi, q ≤ A.length ∧ mi ≤ q ∧ v = .slice b' (m + mi) d' ∧ jv = .int .i64 (q : Nat) ∧ Hid (mi = (egRow l A p q).length ∧ Mem w [] wr [RowI bb db A, RowA 42 2 b' (m + mi) d' (egFlat (egUp l A i ++ egRow l A p q)), RowI (some ⟨ga, 0, none⟩) da A])) (fun _ jv _ => A.length - (intOf jv).toNat)
      case atStart => exact ⟨0, b, d, 0, Nat.zero_le _, Nat.le_refl _, rfl, rfl, Lib.hid ⟨rfl, M2.out⟩⟩
      case round =>
        obtain ⟨W3, rfl⟩ : ∃ W3, W3 = wr := ⟨_, rfl⟩
        obtain ⟨q, b', d', mi, hq, hmq, rfl, rfl, HS⟩ := hrel
        clear M2 HE0
        have HMI := Lib.hid HS.out.1
        have M3 := Lib.hid HS.out.2
        clear HS
        by_cases hlq : q < A.length
        · obtain ⟨gb, rfl, hcb⟩ := (Mem.rowAt [] (r := [RowA 42 2 b' (m + mi) d' (egFlat (egUp l A i ++ egRow l A p q)), RowI (some ⟨ga, 0, none⟩) da A]) M3.out).cellAt q (by simpa [intsV] using hlq)
          rw [show (intsV A)[q]'(by simpa [intsV] using hlq) = .int .i64 A[q] by simp [intsV]] at hcb
          have HIN := Lib.hid (egRow_succ l A p q hlq)
          have HE1 := Lib.hid (HEG.out p A[q] _ M3.out.bel)
          generalize A[q] = y at *
          cases hqe : edgeQ l p y with
          | false =>
            rw [hqe] at HE1 HIN
            have HX : Hid (∀ W, Below W3.heap.size W3 W → mi = (egRow l A p (q + 1)).length ∧ Mem w [] W [RowI (some ⟨gb, 0, none⟩) db A, RowA 42 2 b' (m + mi) d' (egFlat (egUp l A i ++ egRow l A p (q + 1))), RowI (some ⟨ga, 0, none⟩) da A]) := Lib.hid fun W hW => by
              have e := HIN.out
              rw [if_neg (by simp), List.append_nil] at e
              rw [e]; exact ⟨HMI.out, M3.out.below hW⟩
            clear HIN HMI M3
            go_wp2_with fail
            refine HE1.out.mono ?_
            rintro e w4 ⟨rfl, hb4⟩
            have HX4 := Lib.hid (HX.out _ hb4)
            clear hb4 HX HE1
            go_wp2_with fail
            go_roundw
            case rel => exact ⟨q + 1, b', d', mi, by omega, by omega, rfl, by go_num, HX4⟩
            case measure => simp [intOf]; omega
          | true =>
            rw [hqe] at HE1 HIN
            have HX : Hid (∀ W, Below W3.heap.size W3 W → Mem w [] W ([RowI (some ⟨gb, 0, none⟩) db A] ++ RowA 42 2 b' (m + mi) d' (egFlat (egUp l A i ++ egRow l A p q)) :: [RowI (some ⟨ga, 0, none⟩) da A])) := Lib.hid fun W hW => M3.out.below hW
            have HFIN : Hid (∀ w9 b9 d9, Mem w [] w9 ([RowI (some ⟨gb, 0, none⟩) db A] ++ RowA 42 2 b9 (m + mi + 1) d9 (egFlat (egUp l A i ++ egRow l A p q) ++ [.int .i64 p, .int .i64 y]) :: [RowI (some ⟨ga, 0, none⟩) da A]) → mi + 1 = (egRow l A p (q + 1)).length ∧ Mem w [] w9 [RowI (some ⟨gb, 0, none⟩) db A, RowA 42 2 b9 (m + (mi + 1)) d9 (egFlat (egUp l A i ++ egRow l A p (q + 1))), RowI (some ⟨ga, 0, none⟩) da A]) := Lib.hid fun w9 b9 d9 h => by
              have e := HIN.out
              rw [if_pos rfl] at e
              rw [e]
              refine ⟨by rw [HMI.out]; simp, ?_⟩
              rw [← List.append_assoc, egFlat_append (egUp l A i ++ egRow l A p q)]
              exact h
            clear HIN HMI M3
            go_wp2_with fail
            refine HE1.out.mono ?_
            rintro e w4 ⟨rfl, hb4⟩
            obtain ⟨b4, d4, w5, hrun4, mB⟩ := Mem.app1 (P := Try.prog) (t := 25) (ty := 25) [RowI (some ⟨gb, 0, none⟩) db A] (r := [RowI (some ⟨ga, 0, none⟩) da A]) Try.underlying25 infoEg (by rfl) (by decide) (HX.out _ hb4) [.int .i64 p, .int .i64 y] (by rfl) (by simp [Value.oneCell']) (by omega) (by decide)
            have HRUN := Lib.hid hrun4
            have HX4 := Lib.hid (HFIN.out w5 b4 d4 mB)
            clear hb4 HX HE1 hrun4 mB HFIN
            go_wp2_with ((at_builtin; refine wpList_appendR _ rfl (.tmp 26) (.tmp 30) 25 25 rfl (.slice b' (m + mi) d') (.slice (some ⟨w4.heap.size, 0, none⟩) 1 1) rfl rfl HRUN.out ?_))
            go_roundw
            case rel => exact ⟨q + 1, b4, d4, mi + 1, by omega, by omega, rfl, by go_num, HX4⟩
            case measure => simp [intOf]; omega
        · obtain rfl : q = A.length := by omega
          have HX : Hid (m + mi = (egUp l A (i + 1)).length ∧ Mem w [] W3 [RowA 42 2 b' (m + mi) d' (egFlat (egUp l A (i + 1))), RowI (some ⟨ga, 0, none⟩) da A]) := Lib.hid (by
            rw [HU.out]
            exact ⟨by rw [List.length_append, ← HM.out, ← HMI.out], Mem.drop [] (A := RowI bb db A) (r := [RowA 42 2 b' (m + mi) d' (egFlat (egUp l A i ++ egRow l A p A.length)), RowI (some ⟨ga, 0, none⟩) da A]) M3.out⟩)
          clear M3 HM HMI HU
          go_wp2_with fail
          go_roundw
          case rel => exact ⟨i + 1, b', d', m + mi, by omega, by omega, rfl, by go_num, HX⟩
          case measure => simp [intOf]; omega
    · obtain rfl : i = A.length := by omega
      have HF : Hid (∃ b' d', Ending.returned (.slice b m d) = .returned (.slice b' (egUp l A A.length).length d') ∧ Made w (RowE b' d' (egUp l A A.length)) W1) := Lib.hid (by
        have h := M1.out
        have e := HM.out
        subst e
        exact ⟨b, d, rfl, Mem.toMade (l := [RowI ba da A]) h⟩)
      clear M1 HM
      go_wp2_with fail
      go_ret
      exact HF.out
end Go.Proofs.Ytbgabdofnmijnaa
