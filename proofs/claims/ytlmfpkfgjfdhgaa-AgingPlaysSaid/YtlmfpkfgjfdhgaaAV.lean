/- The reference's loses. -/
import Derived.Test.YtlmfpkfgjfdhgaaAU
import Derived.BigRegion
namespace Go.Proofs.Ytlmfpkfgjfdhgaa
open Go.RowKit

theorem giveT_okp {wd : Bool} {M : List Mb} {K : List Lk} {key : ByteArray} {M' : List Mb} {K' : List Lk} (h : TOk M K) (e : giveT wd M K key = (M', K')) : TOk M' K' := by
  have := giveT_ok (wd := wd) (key := key) h
  rw [e] at this; exact this
theorem ids_nonneg {M M' : List Mb} (h : ∀ m ∈ M, 0 ≤ m.id) (e : M'.map (·.id) = M.map (·.id)) : ∀ m ∈ M', 0 ≤ m.id := fun m hm => by
  have h1 : m.id ∈ M'.map (·.id) := List.mem_map_of_mem hm
  rw [e] at h1
  obtain ⟨m0, h2, h3⟩ := List.mem_map.1 h1
  rw [← h3]; exact h m0 h2
/-- the loop's head. -/
def LHead (w : World) (D : List Nat) (p : Nat) (wd : Bool) (M1 : List Mb) (K : List Lk) (ks : List ByteArray) (ak : Option Addr) (ck : Nat) (k : Nat) (wr : World) : Prop :=
  Mem w D wr [RowA 9 1 ak ks.length ck (ks.map Value.string), RefA p wd (gives wd (M1, K) (ks.take k)).1 (gives wd (M1, K) (ks.take k)).2]
set_option maxRecDepth 100000 in
set_option maxHeartbeats 4000000 in
theorem rf_loses (p : Nat) (wd : Bool) (M : List Mb) (K : List Lk) (id : Int) (hok : TOk M K) (hh : hasM M id = true) (hid : ∀ m ∈ M, 0 ≤ m.id) (w : World) (D : List Nat) (h : RefA p wd M K w D) :
    Calls Try.prog 45 #[.pointer (some ⟨p, 0, none⟩), .int .i64 id] w (RPost p wd (losesT wd M K id).1 (losesT wd M K id).2 w D (.returned (.tuple #[]))) := by
  have M0 := Lib.hid (show Mem w D w ([] ++ RefA p wd M K :: []) from Mem.start h)
  have hok1 : TOk (restM M id) K := restM_tok id hok
  have hid1 : ∀ m ∈ restM M id, 0 ≤ m.id := ids_nonneg hid (restM_ids M id)
  have hkn := holdsK_nodup hok.sk id
  have hkh : ∀ k ∈ holdsK K id, hasK K k = true := fun k hk => holdsK_has hk
  have hkl : (holdsK K id).length ≤ 100000 := by unfold holdsK; rw [List.length_map]; exact Nat.le_trans (List.length_filter_le _ _) hok.fk
  obtain ⟨hql, -⟩ := (hasM_iff hok.sm id).1 hh
  have hrm := restM_eq hql
  have hml := hok.fm
  have HPL := Lib.hid (mem_rplace [] M0.out hok id)
  rw [placeI_has hh] at HPL
  have HST := Lib.hid fun w1 (hm : Mem w D w1 ([] ++ RefA p wd M K :: [])) => mem_store [] hm hql false ⟨#[]⟩
  rw [← hrm] at HST
  have HHO := Lib.hid fun w1 (hm : Mem w D w1 ([] ++ RefA p wd (restM M id) K :: [])) => mem_rholds [] hm hok1 id
  unfold losesT
  generalize holdsK K id = ks at *
  have HOK := Lib.hid hok1
  have HID := Lib.hid hid1
  have HKN := Lib.hid hkn
  have HKH := Lib.hid hkh
  have HFIN : Hid (∀ w' ak ck, LHead w D p wd (restM M id) K ks ak ck ks.length w' → RPost p wd (gives wd (restM M id, K) ks).1 (gives wd (restM M id, K) ks).2 w D (.returned (.tuple #[])) (.returned (.tuple #[])) w') := Lib.hid fun w' ak ck hm => by
    unfold LHead at hm
    rw [List.take_length] at hm
    obtain ⟨D', ⟨D1, D2, rfl, _, h1, h2⟩, h3⟩ := (Mem.drop [] (r := [RefA p wd (gives wd (restM M id, K) ks).1 (gives wd (restM M id, K) ks).2]) hm).out
    obtain rfl : D2 = [] := h2
    rw [List.append_nil] at h3
    exact ⟨rfl, D1, h1, h3⟩
  generalize RPost p wd (gives wd (restM M id, K) ks).1 (gives wd (restM M id, K) ks).2 w D (.returned (.tuple #[])) = R at *
  clear h hok hok1 hkn hkh hid hid1 hrm hh
  generalize restM M id = M1 at *
  go_enter Try.func45, Try.ntmps45
  go_wp2_with fail
  refine HPL.out.mono ?_
  rintro e w1 ⟨rfl, hm⟩
  have M2 := Lib.hid hm
  clear hm M0 HPL
  obtain ⟨g, lc, hc1, ⟨⟨v2, hv2⟩, hf2⟩, ⟨⟨v3, hv3⟩, hf3⟩, ha, hb⟩ := HST.out w1 M2.out
  have HA := Lib.hid (ha.below (bel_drew _))
  have HB := Lib.hid (hb.below (bel_drew _))
  clear ha hb HST M2
  generalize hq : posM M id = q at *
  clear hq
  generalize hmn : M.length = mn at *
  clear hmn
  have hqn : (q : Int) < (mn : Int) := by omega
  have hqz : (0 : Int) ≤ (q : Int) := by omega
  go_wp2_with fail
  go_region
  all_goals
    clear hc1 hv2 hf2 hv3 hf3
    go_wp2_with fail
    refine (HHO.out _ (by first | exact HA.out | exact HB.out)).mono ?_
    rintro e w3 ⟨ak, ck, rfl, hm⟩
    have M4 : Hid (LHead w D p wd M1 K ks ak ck 0 w3) := Lib.hid hm
    clear hm HA HB HHO
    go_wp2_with fail
    go_loopw [31] (fun jv wr => ∃ k : Nat, k ≤ ks.length ∧ jv = .int .i64 k ∧ Hid (LHead w D p wd M1 K ks ak ck k wr)) (fun jv _ => ks.length - (intOf jv).toNat)
    case atStart => exact ⟨0, Nat.zero_le _, rfl, M4⟩
    case round =>
      obtain ⟨W1, rfl⟩ : ∃ W1, W1 = wr := ⟨_, rfl⟩
      obtain ⟨k, hk, rfl, hS⟩ := hrel
      clear M4
      by_cases hlt : k < ks.length
      · have hm0 := hS.out
        unfold LHead at hm0
        obtain ⟨g5, rfl, hx⟩ := (Mem.rowAt [] hm0).cellAt k (by rw [List.length_map]; exact hlt)
        rw [List.getElem_map] at hx
        have hok2 := gives_ok (wd := wd) (ks.take k) (M1, K) HOK.out
        have hid2 := ids_nonneg HID.out (gives_ids wd (ks.take k) (M1, K))
        have hhas : hasK (gives wd (M1, K) (ks.take k)).2 ks[k] = true := by
          have hnd := HKN.out
          rw [gives_has (ks.take k) (M1, K) ks[k] HOK.out (fun x hx => HKH.out x (List.mem_of_mem_take hx)) (hnd.sublist (List.take_sublist _ _)) (fun hm => by
            obtain ⟨j, hj, e⟩ := List.getElem_of_mem hm
            rw [List.getElem_take] at e
            rw [List.length_take] at hj
            exact List.pairwise_iff_getElem.1 hnd j k (by omega) hlt (by omega) e)]
          exact HKH.out _ (List.getElem_mem hlt)
        have HT := Lib.hid (gives_take wd (M1, K) ks k hlt)
        have HNX : Hid (∀ W M' K', giveT wd (gives wd (M1, K) (ks.take k)).1 (gives wd (M1, K) (ks.take k)).2 ks[k] = (M', K') → Mem w D W [RowA 9 1 (some ⟨g5, 0, none⟩) ks.length ck (ks.map Value.string), RefA p wd M' K'] → LHead w D p wd M1 K ks (some ⟨g5, 0, none⟩) ck (k + 1) W) := Lib.hid fun W M' K' e hm => by
          unfold LHead
          rw [HT.out, e]; exact hm
        have M5 := Lib.hid (show Mem w D W1 ([RowA 9 1 (some ⟨g5, 0, none⟩) ks.length ck (ks.map Value.string)] ++ RefA p wd (gives wd (M1, K) (ks.take k)).1 (gives wd (M1, K) (ks.take k)).2 :: []) from hm0)
        clear hm0 hS HT
        generalize gives wd (M1, K) (ks.take k) = st at *
        obtain ⟨Mk, Kk⟩ := st
        simp only at hok2 hid2 hhas HNX M5
        generalize ks[k] = kk at *
        have OKS := Lib.hid hok2
        have HIDS := Lib.hid hid2
        have HHAS := Lib.hid hhas
        clear hok2 hid2 hhas
        go_wp2_with fail
        refine (mem_rwaiting [RowA 9 1 (some ⟨g5, 0, none⟩) ks.length ck (ks.map Value.string)] M5.out OKS.out kk).mono ?_
        rintro e w4 ⟨S, al, cl, hp, hy, rfl, hm⟩
        have M6 := Lib.hid (show Mem w D w4 ([RowA 3 1 al S.length cl ((S.map (·.id)).map (Value.int .i64)), RowA 9 1 (some ⟨g5, 0, none⟩) ks.length ck (ks.map Value.string)] ++ RefA p wd Mk Kk :: []) from hm)
        have hgv := giveT_ref (wd := wd) OKS.out.sk HHAS.out HIDS.out hp hy
        have hsl : S.length ≤ 1000 := by
          rw [hp.length_eq]
          exact Nat.le_trans (List.length_filter_le _ _) OKS.out.fm
        clear hm hp hy M5
        rcases hgv with ⟨rfl, hg⟩ | ⟨h0, hg, hhn⟩
        · have HG := Lib.hid hg
          clear hg
          simp only [List.length_nil] at *
          go_wp2_with fail
          refine (mem_rset [RowA 3 1 al 0 cl ((([] : List Mb).map (·.id)).map (Value.int .i64)), RowA 9 1 (some ⟨g5, 0, none⟩) ks.length ck (ks.map Value.string)] M6.out OKS.out kk (-1) rfl).mono ?_
          rintro e w5 ⟨rfl, hm⟩
          have HFF := Lib.hid (HNX.out w5 _ _ HG.out (Mem.drop [] (r := [RowA 9 1 (some ⟨g5, 0, none⟩) ks.length ck (ks.map Value.string), RefA p wd Mk (setF Kk kk (-1))]) hm))
          clear hm
          go_wp2_with fail
          go_roundw
          case rel => exact ⟨k + 1, by omega, by go_num, HFF⟩
          case measure => simp [intOf]; omega
        · have hrow := Mem.rowAt [] (show Mem w D w4 ([] ++ RowA 3 1 al S.length cl ((S.map (·.id)).map (Value.int .i64)) :: [RowA 9 1 (some ⟨g5, 0, none⟩) ks.length ck (ks.map Value.string), RefA p wd Mk Kk]) from M6.out)
          obtain ⟨gl, rfl, hy0⟩ := hrow.cellAt 0 (by simp only [List.length_map]; exact h0)
          obtain ⟨gl', e', hy1⟩ := hrow.cellAt (S.length - 1) (by simp only [List.length_map]; omega)
          simp only [Option.some.injEq, Addr.mk.injEq, and_true] at e'
          subst e'
          simp only [List.getElem_map] at hy0 hy1
          have hwd := mem_rwd [RowA 3 1 (some ⟨gl, 0, none⟩) S.length cl ((S.map (·.id)).map (Value.int .i64)), RowA 9 1 (some ⟨g5, 0, none⟩) ks.length ck (ks.map Value.string)] M6.out
          have hs1 : (0 : Int) < (S.length : Int) := by omega
          clear hrow
          obtain ⟨nx, hnx, hcase⟩ : ∃ nx : Int, (if wd = true then S[0].id else S[S.length - 1].id) = nx ∧ ((wd = true ∧ S[0].id = nx) ∨ (wd = false ∧ S[S.length - 1].id = nx)) := by
            cases wd with
            | true => exact ⟨_, rfl, .inl ⟨rfl, rfl⟩⟩
            | false => exact ⟨_, rfl, .inr ⟨rfl, rfl⟩⟩
          rw [hnx] at hg hhn
          have HG := Lib.hid hg
          have hql2 := ((hasM_iff OKS.out.sm nx).1 hhn).choose
          have hokr := restM_tok nx OKS.out
          have HOKR := Lib.hid hokr
          have HHN := Lib.hid hhn
          have HRE := Lib.hid (restM_eq hql2)
          have hmk := OKS.out.fm
          clear hg hhn hnx hokr
          generalize hn0 : S[0].id = n0 at *
          clear hn0
          generalize hn1 : S[S.length - 1].id = n1 at *
          clear hn1
          rcases hcase with ⟨rfl, rfl⟩ | ⟨rfl, rfl⟩
          · go_wp2_with fail
            refine (mem_rplace [RowA 3 1 (some ⟨gl, 0, none⟩) S.length cl ((S.map (·.id)).map (Value.int .i64)), RowA 9 1 (some ⟨g5, 0, none⟩) ks.length ck (ks.map Value.string)] M6.out OKS.out n0).mono ?_
            rintro e w5 ⟨he, hm⟩
            rw [placeI_has HHN.out] at he
            subst he
            have M7 := Lib.hid hm
            clear hm
            obtain ⟨gs, lcs, hc1, ⟨⟨v2, hv2⟩, hf2⟩, ⟨⟨v3, hv3⟩, hf3⟩, ha, hb⟩ := mem_store [RowA 3 1 (some ⟨gl, 0, none⟩) S.length cl ((S.map (·.id)).map (Value.int .i64)), RowA 9 1 (some ⟨g5, 0, none⟩) ks.length ck (ks.map Value.string)] (r := []) M7.out hql2 false ⟨#[]⟩
            rw [← HRE.out] at ha hb
            have HA := Lib.hid (ha.below (bel_drew _))
            have HB := Lib.hid (hb.below (bel_drew _))
            clear ha hb M7 HRE
            generalize hq2 : posM Mk n0 = q2 at *
            clear hq2
            generalize hmn2 : Mk.length = mn2 at *
            clear hmn2
            have hqn2 : (q2 : Int) < (mn2 : Int) := by omega
            have hqz2 : (0 : Int) ≤ (q2 : Int) := by omega
            clear hx hy0 hy1
            generalize hw5 : w5 = W5 at *
            clear hw5
            go_wp2_with fail
            go_region
            all_goals
              clear hc1 hv2 hf2 hv3 hf3
              go_wp2_with fail
              refine (mem_rset (w0 := w) (D0 := D) (r := []) [RowA 3 1 (some ⟨gl, 0, none⟩) S.length cl ((S.map (·.id)).map (Value.int .i64)), RowA 9 1 (some ⟨g5, 0, none⟩) ks.length ck (ks.map Value.string)] (by first | exact HA.out | exact HB.out) HOKR.out kk n0 rfl).mono ?_
              rintro e w6 ⟨rfl, hm⟩
              have HFF := Lib.hid (HNX.out w6 _ _ HG.out (Mem.drop [] (r := [RowA 9 1 (some ⟨g5, 0, none⟩) ks.length ck (ks.map Value.string), RefA p true (restM Mk n0) (setF Kk kk n0)]) hm))
              clear hm HA HB
              go_wp2_with fail
              go_roundw
              case rel => exact ⟨k + 1, by omega, by go_num, HFF⟩
              case measure => simp [intOf]; omega
          · go_wp2_with fail
            refine (mem_rplace [RowA 3 1 (some ⟨gl, 0, none⟩) S.length cl ((S.map (·.id)).map (Value.int .i64)), RowA 9 1 (some ⟨g5, 0, none⟩) ks.length ck (ks.map Value.string)] M6.out OKS.out n1).mono ?_
            rintro e w5 ⟨he, hm⟩
            rw [placeI_has HHN.out] at he
            subst he
            have M7 := Lib.hid hm
            clear hm
            obtain ⟨gs, lcs, hc1, ⟨⟨v2, hv2⟩, hf2⟩, ⟨⟨v3, hv3⟩, hf3⟩, ha, hb⟩ := mem_store [RowA 3 1 (some ⟨gl, 0, none⟩) S.length cl ((S.map (·.id)).map (Value.int .i64)), RowA 9 1 (some ⟨g5, 0, none⟩) ks.length ck (ks.map Value.string)] (r := []) M7.out hql2 false ⟨#[]⟩
            rw [← HRE.out] at ha hb
            have HA := Lib.hid (ha.below (bel_drew _))
            have HB := Lib.hid (hb.below (bel_drew _))
            clear ha hb M7 HRE
            generalize hq2 : posM Mk n1 = q2 at *
            clear hq2
            generalize hmn2 : Mk.length = mn2 at *
            clear hmn2
            have hqn2 : (q2 : Int) < (mn2 : Int) := by omega
            have hqz2 : (0 : Int) ≤ (q2 : Int) := by omega
            clear hx hy0 hy1
            generalize hw5 : w5 = W5 at *
            clear hw5
            go_wp2_with fail
            go_region
            all_goals
              clear hc1 hv2 hf2 hv3 hf3
              go_wp2_with fail
              refine (mem_rset (w0 := w) (D0 := D) (r := []) [RowA 3 1 (some ⟨gl, 0, none⟩) S.length cl ((S.map (·.id)).map (Value.int .i64)), RowA 9 1 (some ⟨g5, 0, none⟩) ks.length ck (ks.map Value.string)] (by first | exact HA.out | exact HB.out) HOKR.out kk n1 rfl).mono ?_
              rintro e w6 ⟨rfl, hm⟩
              have HFF := Lib.hid (HNX.out w6 _ _ HG.out (Mem.drop [] (r := [RowA 9 1 (some ⟨g5, 0, none⟩) ks.length ck (ks.map Value.string), RefA p false (restM Mk n1) (setF Kk kk n1)]) hm))
              clear hm HA HB
              go_wp2_with fail
              go_roundw
              case rel => exact ⟨k + 1, by omega, by go_num, HFF⟩
              case measure => simp [intOf]; omega
      · obtain rfl : k = ks.length := by omega
        have HF2 := Lib.hid (HFIN.out _ _ _ hS.out)
        clear hS
        go_wp2_with fail
        go_end0
        exact HF2.out
end Go.Proofs.Ytlmfpkfgjfdhgaa
