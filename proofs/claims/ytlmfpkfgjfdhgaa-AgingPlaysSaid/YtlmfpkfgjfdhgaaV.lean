/- Ask, whole. -/
import Derived.Test.YtlmfpkfgjfdhgaaU
namespace Go.Proofs.Ytlmfpkfgjfdhgaa
open Go.RowKit

def mbOf (M : List Mb) (id : Int) : Mb := M[posM M id]?.getD ⟨0, 0, false, ⟨#[]⟩⟩
theorem mbOf_eq {M : List Mb} {id : Int} (h : posM M id < M.length) : mbOf M id = M[posM M id] := by unfold mbOf; simp [h]
/-- one asks for a key. -/
def askT (wd : Bool) (M : List Mb) (K : List Lk) (id : Int) (key : ByteArray) : (Int × Int) × List Mb × List Lk :=
  if (16 : Int) < (key.size : Int) then ((-1, 1), M, K)
  else if hasM M id = false then ((-1, 6), M, K)
  else if waitsAt M (posM M id) = true then ((-1, 8), M, K)
  else if hasK K key = false then ((-1, 0), M, insAt K (posK K key) ⟨key, id⟩)
  else if holdK K key = id then ((-1, 0), M, K)
  else if ageC (mbOf M id) (mbOf M (holdK K key)) < 0 then
    if wd = true then ((holdK K key, if waitsAt (losesT wd (waitT M id key) K (holdK K key)).1 (posM M id) then 10 else 0), losesT wd (waitT M id key) K (holdK K key))
    else ((-1, 10), waitT M id key, K)
  else if wd = true then ((-1, 10), waitT M id key, K)
  else ((-1, 11), losesT wd M K id)
set_option maxHeartbeats 2000000 in
theorem tb_ask (p : Nat) (wd : Bool) (M : List Mb) (K : List Lk) (id : Int) (key : ByteArray) (hok : TOk M K) (hI : ∀ l ∈ K, hasM M l.holder = true) (w : World) (D : List Nat) (h : TbA p wd M K w D) :
    Calls Try.prog 12 #[.pointer (some ⟨p, 0, none⟩), .int .i64 id, .string key] w (TPost w D p wd (two (askT wd M K id key).1.1 (askT wd M K id key).1.2) (askT wd M K id key).2.1 (askT wd M K id key).2.2) := by
  unfold askT
  by_cases hz : (16 : Int) < (key.size : Int)
  · rw [if_pos hz]; exact tb_ask_arg p wd M K id key w D h hz
  rw [if_neg hz]
  by_cases hh : hasM M id = false
  · rw [if_pos hh]; exact tb_ask_none p wd M K id key w D hok h hz hh
  rw [if_neg hh]
  have hh : hasM M id = true := by simpa using hh
  obtain ⟨hl, -⟩ := (hasM_iff hok.sm id).1 hh
  rw [waitsAt_eq hl]
  by_cases hw : M[posM M id].waits = true
  · rw [if_pos hw]; exact tb_ask_state p wd M K id key w D hok h hz hh hl hw
  rw [if_neg hw]
  have hw : M[posM M id].waits = false := by simpa using hw
  by_cases hk : hasK K key = false
  · rw [if_pos hk]; exact tb_ask_new p wd M K id key w D hok h hz hh hl hw hk
  rw [if_neg hk]
  have hk : hasK K key = true := by simpa using hk
  obtain ⟨hlk, -⟩ := (hasK_iff hok.sk key).1 hk
  have hhd : K[posK K key].holder = holdK K key := by unfold holdK; rw [hk]; simp [hlk]
  have hh2 : hasM M (holdK K key) = true := hhd ▸ hI _ (List.getElem_mem hlk)
  generalize holdK K key = hd at *
  by_cases he : hd = id
  · rw [if_pos he]; exact tb_ask_own p wd M K id hd key w D hok h hz hh hl hw hk hlk hhd he
  rw [if_neg he]
  obtain ⟨hl2, -⟩ := (hasM_iff hok.sm hd).1 hh2
  rw [mbOf_eq hl, mbOf_eq hl2]
  by_cases ha : ageC M[posM M id] M[posM M hd] < 0
  · rw [if_pos ha]
    by_cases hwd : wd = true
    · rw [if_pos hwd]; exact tb_ask_wound p wd M K id hd key w D hok h hz hh hl hw hk hlk hhd he hh2 hl2 hwd ha
    · rw [if_neg hwd, waitT_eq hl]; exact tb_ask_wait_die p wd M K id hd key w D hok h hz hh hl hw hk hlk hhd he hh2 hl2 (by simpa using hwd) ha
  · rw [if_neg ha]
    by_cases hwd : wd = true
    · rw [if_pos hwd, waitT_eq hl]; exact tb_ask_wait_wound p wd M K id hd key w D hok h hz hh hl hw hk hlk hhd he hh2 hl2 hwd ha
    · rw [if_neg hwd]; exact tb_ask_abort p wd M K id hd key w D hok h hz hh hl hw hk hlk hhd he hh2 hl2 (by simpa using hwd) ha
end Go.Proofs.Ytlmfpkfgjfdhgaa
