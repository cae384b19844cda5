/- Keys; Owners. -/
import Derived.Test.YtmifgnibalbgjaaGreatZLAC
import Derived.Test.YtmifgnibalbgjaaGreatZLAA
namespace Go.Proofs.YtmifgnibalbgjaaGreat
open Go.RowKit set_option linter.unusedVariables false set_option linter.unusedSimpArgs false
/-- all who hold or wait. -/
def ownsLi (l : Li) : List Int := l.hs.map (·.owner) ++ l.qs.map (·.owner)
def ownsL (L : List Li) : List Int := L.flatMap ownsLi
theorem ownsL_next {L : List Li} {j : Nat} (h : j < L.length) : ownsL (L.take (j + 1)) = ownsL (L.take j) ++ L[j].hs.map (·.owner) ++ L[j].qs.map (·.owner) := by
 unfold ownsL ownsLi
 rw [List.take_succ_eq_append_getElem h, List.flatMap_append]; simp
theorem ownsL_len {N : Nat} {L : List Li} (hb : Sm N L) : ∀ j, j ≤ L.length → (ownsL (L.take j)).length ≤ j * N
 | 0, _ => by simp [ownsL]
 | j + 1, h => by
  have ih := ownsL_len hb j (by omega)
  rw [ownsL_next (by omega), List.length_append, List.length_append, List.length_map, List.length_map, Nat.succ_mul]
  have := hb.2 L[j] (List.getElem_mem _)
  omega
theorem take_owner {l : List Hd} {i : Nat} (h : i < l.length) : (l.take (i + 1)).map (·.owner) = (l.take i).map (·.owner) ++ [l[i].owner] := by
 rw [List.take_succ_eq_append_getElem h, List.map_append]; rfl
theorem RowI.app {w0 w : World} {D0 : List Nat} (l : List Asn) {r : List Asn} [Stables l] [Stables r] {a : Option Addr} {c : Nat} {I : List Int} (h : Mem w0 D0 w (l ++ RowI a c I :: r)) (x : Int) (hn : I.length ≤ 1000000) :
  ∃ b' cap' w', (Builtin.append_ #[102, 102] 102 #[.slice a I.length c, .slice (some ⟨w.heap.size, 0, none⟩) 1 1]).run Tryz.prog (w.alloc (.cells #[.int .i64 x] 3)) = .ok (.slice b' (I.length + 1) cap') w' ∧ Mem w0 D0 w' (l ++ RowI b' cap' (I ++ [x]) :: r) := by
 obtain ⟨b', cap', w', h1, h2⟩ := Mem.app1 (P := Tryz.prog) (t := 102) (ty := 102) l Tryz.underlying102 infoInt (by rfl) (by decide) h [.int .i64 x] (by rfl) (by simp [Value.oneCell']) hn (by decide)
 refine ⟨b', cap', w', h1, ?_⟩
 have e : RowI b' cap' (I ++ [x]) = RowA 3 1 b' (I.length + 1) cap' (intsV I ++ [.int .i64 x]) := by unfold RowI; rw [List.length_append, List.length_singleton]; simp [intsV]
 rw [e]; exact h2
set_option maxRecDepth 100000 in
set_option maxHeartbeats 8000000 in
theorem tab_owners (p : Nat) (L : List Li) (w : World) (D : List Nat) (h : TabA p L w D) (hb : Sm 400 L) : Calls Tryz.prog 73 #[.pointer (some ⟨p, 0, none⟩)] w (NewI w (riseI (ownsL L))) := by
 obtain ⟨la, n, c, hc, hl⟩ := LinesAt.tab h
 obtain rfl := hl.1
 have HL := Lib.hid hl
 have HSM := Lib.hid hb
 have hn4 : L.length ≤ 400 := hb.1
 have M0 := Lib.hid ((Mem.nil w).new (Below.refl _ _) (As := [RowI none 0 []]) (all_one ⟨rfl, Row.nil _ _ _⟩) (by simp [blkOf]))
 clear h hl hb
 go_enter Tryz.func73, Tryz.ntmps73
 go_wp2_with fail
 go_loopw [3, 17] (fun v jv wr => ∃ j : Nat, j ≤ L.length ∧ jv = .int .i64 (j : Nat) ∧ Hid (∃ a ca, v = .slice a (ownsL (L.take j)).length ca ∧ Mem w [] wr [RowI a ca (ownsL (L.take j))])) (fun _ jv _ => L.length - (intOf jv).toNat)
 case atStart => exact ⟨0, Nat.zero_le _, rfl, Lib.hid ⟨none, 0, rfl, M0.out⟩⟩
 case round =>
  obtain ⟨W1, rfl⟩ : ∃ W1, W1 = wr := ⟨_, rfl⟩
  obtain ⟨j, hj, rfl, hS⟩ := hrel
  clear M0
  obtain ⟨a, ca, rfl, hm⟩ := hS.out
  clear hS
  by_cases hlt : j < L.length
  ·obtain ⟨g, o, x, rfl, hx, -, hxh, hxq, -, -⟩ := HL.out.2 j hlt
   obtain ⟨k0, k1, k2⟩ := hx.below hm.bel
   have HH := Lib.hid hxh
   have HQ := Lib.hid hxq
   have HSJ := Lib.hid (HSM.out.2 _ (List.getElem_mem hlt))
   have HLI := Lib.hid (ownsL_len HSM.out j (by omega))
   have hmb := ownsL_next hlt
   have HMB := Lib.hid hmb
   clear hx hxh hxq hmb
   generalize hMJ : ownsL (L.take j) = IJ at *
   clear hMJ
   generalize L[j].hs = H at *
   generalize L[j].qs = Q at *
   obtain ⟨xk, ⟨ha, hn, hc'⟩, ⟨qa, qn, qc⟩⟩ := x
   simp only at k0 k1 k2 HH HQ
   obtain rfl : hn = H.length := HH.out.1
   obtain rfl : qn = Q.length := HQ.out.1
   have hlen : IJ.length + H.length + Q.length ≤ 200000 := by
    have := HSJ.out; have := HLI.out
    have : j * 400 ≤ 400 * 400 := Nat.mul_le_mul_right _ (by omega)
    omega
   have M1 := Lib.hid (hm.block #[.string xk, .slice ha H.length hc', .slice qa Q.length qc] 66)
   clear hm
   go_wp2_with fail
   obtain ⟨W2, hW2⟩ : ∃ W2, W2 = W1.alloc (.cells #[.string xk, .slice ha H.length hc', .slice qa Q.length qc] 66) := ⟨_, rfl⟩
   rw [← hW2] at M1 ⊢
   clear hW2 k0 k1 k2
   generalize W1.heap.size = b7 at *
   go_loopw [3, 24] (fun v jv wr => ∃ i : Nat, i ≤ H.length ∧ jv = .int .i64 (i : Nat) ∧ Hid (∃ a ca, v = .slice a (IJ ++ (H.take i).map (·.owner)).length ca ∧ Mem w [] wr [RowI a ca (IJ ++ (H.take i).map (·.owner)), BlockA b7 #[.string xk, .slice ha H.length hc', .slice qa Q.length qc] 66])) (fun _ jv _ => H.length - (intOf jv).toNat)
   case atStart => exact ⟨0, Nat.zero_le _, rfl, Lib.hid ⟨a, ca, by simp, by simpa using M1.out.perm (List.Perm.swap _ _ _)⟩⟩
   case round =>
    obtain ⟨w1, rfl⟩ : ∃ w1, w1 = wr := ⟨_, rfl⟩
    obtain ⟨i, hi, rfl, hS⟩ := hrel
    obtain ⟨a, ca, rfl, hm⟩ := hS.out
    clear hS M1
    by_cases hlti : i < H.length
    ·obtain ⟨gq, oq, rfl, hcz⟩ := HH.out.2 i hlti
     obtain ⟨z0, z1⟩ := hcz.below hm.bel
     have HTK := Lib.hid (take_owner hlti)
     have hlt9 : (IJ ++ (H.take i).map (·.owner)).length ≤ 1000000 := by rw [List.length_append, List.length_map, List.length_take]; omega
     generalize H[i] = z at *
     generalize hI : IJ ++ (H.take i).map (·.owner) = I at *
     have HI := Lib.hid hI
     clear hI hcz
     obtain ⟨zo, zm⟩ := z
     simp only at z0 z1 HTK
     obtain ⟨b6, c6, w6, hrun, hnr⟩ := RowI.app [BlockA w1.heap.size #[.int .i64 zo, .int .i64 zm] 32] (hm.block #[.int .i64 zo, .int .i64 zm] 32) zo hlt9
     rw [show (w1.alloc (.cells #[.int .i64 zo, .int .i64 zm] 32)).heap.size = w1.heap.size + 1 by simp only [World.size_alloc]] at hrun
     have HRUN := Lib.hid hrun
     have HF := Lib.hid (Mem.drop [] (r := [RowI b6 c6 (I ++ [zo]), BlockA b7 #[.string xk, .slice (some ⟨gq, oq, none⟩) H.length hc', .slice qa Q.length qc] 66]) hnr)
     have he : Hid (IJ ++ (H.take (i + 1)).map (·.owner) = I ++ [zo]) := Lib.hid (by rw [HTK.out, ← List.append_assoc, HI.out])
     clear hrun hnr hm HI HTK
     go_wp2_with ((at_builtin; refine wpList_appendR _ rfl (.tmp 28) (.tmp 31) 102 102 rfl (.slice a I.length ca) (.slice (some ⟨w1.heap.size + 1, 0, none⟩) 1 1) rfl rfl HRUN.out ?_))
     go_roundw
     case rel => exact ⟨i + 1, by omega, by go_num, Lib.hid ⟨b6, c6, by rw [he.out, List.length_append]; rfl, by rw [he.out]; exact HF.out⟩⟩
     case measure => simp [intOf]; omega
    ·obtain rfl : i = H.length := by omega
     rw [List.take_length] at *
     obtain ⟨k2, -⟩ := cell_of_heap (i := 2) (v := .slice qa Q.length qc) (Mem.blk hm (g := b7) (cur := #[.string xk, .slice ha H.length hc', .slice qa Q.length qc]) (T := 66) (by simp)) rfl
     have HM := Lib.hid hm
     have hIL : (IJ ++ H.map (·.owner)).length + Q.length ≤ 200000 := by rw [List.length_append, List.length_map]; omega
     generalize hI : IJ ++ H.map (·.owner) = I at *
     clear hI hm
     go_wp2_with fail
     go_loopw [3, 37] (fun v jv wr => ∃ i : Nat, i ≤ Q.length ∧ jv = .int .i64 (i : Nat) ∧ Hid (∃ a ca, v = .slice a (I ++ (Q.take i).map (·.owner)).length ca ∧ Mem w [] wr [RowI a ca (I ++ (Q.take i).map (·.owner)), BlockA b7 #[.string xk, .slice ha H.length hc', .slice qa Q.length qc] 66])) (fun _ jv _ => Q.length - (intOf jv).toNat)
     case atStart => exact ⟨0, Nat.zero_le _, rfl, Lib.hid ⟨a, ca, by simp, by simpa using HM.out⟩⟩
     case round =>
      obtain ⟨w2, rfl⟩ : ∃ w2, w2 = wr := ⟨_, rfl⟩
      obtain ⟨i, hi, rfl, hS⟩ := hrel
      obtain ⟨a, ca, rfl, hm⟩ := hS.out
      clear hS HM k2
      by_cases hlti : i < Q.length
      ·obtain ⟨gq, oq, rfl, hcz⟩ := HQ.out.2 i hlti
       obtain ⟨z0, z1⟩ := hcz.below hm.bel
       have HTK := Lib.hid (take_owner hlti)
       have hlt9 : (I ++ (Q.take i).map (·.owner)).length ≤ 1000000 := by rw [List.length_append, List.length_map, List.length_take]; omega
       generalize Q[i] = z at *
       generalize hI2 : I ++ (Q.take i).map (·.owner) = I2 at *
       have HI := Lib.hid hI2
       clear hI2 hcz
       obtain ⟨zo, zm⟩ := z
       simp only at z0 z1 HTK
       obtain ⟨b6, c6, w6, hrun, hnr⟩ := RowI.app [BlockA w2.heap.size #[.int .i64 zo, .int .i64 zm] 32] (hm.block #[.int .i64 zo, .int .i64 zm] 32) zo hlt9
       rw [show (w2.alloc (.cells #[.int .i64 zo, .int .i64 zm] 32)).heap.size = w2.heap.size + 1 by simp only [World.size_alloc]] at hrun
       have HRUN := Lib.hid hrun
       have HF := Lib.hid (Mem.drop [] (r := [RowI b6 c6 (I2 ++ [zo]), BlockA b7 #[.string xk, .slice ha H.length hc', .slice (some ⟨gq, oq, none⟩) Q.length qc] 66]) hnr)
       have he : Hid (I ++ (Q.take (i + 1)).map (·.owner) = I2 ++ [zo]) := Lib.hid (by rw [HTK.out, ← List.append_assoc, HI.out])
       clear hrun hnr hm HI HTK
       go_wp2_with ((at_builtin; refine wpList_appendR _ rfl (.tmp 41) (.tmp 44) 102 102 rfl (.slice a I2.length ca) (.slice (some ⟨w2.heap.size + 1, 0, none⟩) 1 1) rfl rfl HRUN.out ?_))
       go_roundw
       case rel => exact ⟨i + 1, by omega, by go_num, Lib.hid ⟨b6, c6, by rw [he.out, List.length_append]; rfl, by rw [he.out]; exact HF.out⟩⟩
       case measure => simp [intOf]; omega
      ·obtain rfl : i = Q.length := by omega
       rw [List.take_length] at *
       have HF : Hid (Mem w [] w2 [RowI a ca (ownsL (L.take (j + 1)))]) := Lib.hid (by
        rw [HMB.out]; exact Mem.drop [RowI a ca (I ++ Q.map (·.owner))] (r := []) hm)
       have he := HMB.out
       clear hm
       rw [← he]
       go_wp2_with fail
       go_roundw
       case rel => exact ⟨j + 1, by omega, by go_num, Lib.hid ⟨a, ca, rfl, HF.out⟩⟩
       case measure => simp [intOf]; omega
  ·obtain rfl : j = L.length := by omega
   have hI6 := ownsL_len HSM.out L.length (Nat.le_refl _)
   rw [List.take_length] at hm hI6 ⊢
   have hB6 : (ownsL L).length ≤ 1000000 := by
    have : L.length * 400 ≤ 400 * 400 := Nat.mul_le_mul_right _ (by omega)
    omega
   have HSO := Lib.hid (mem_sort [] (r := []) hm hB6)
   clear hm hI6
   go_wp2_with fail
   refine HSO.out.mono ?_
   rintro e w3 ⟨rfl, hm3⟩
   have HCO := Lib.hid (mem_compact [] (r := []) hm3 (by rw [sortI_len]; exact hB6))
   rw [sortI_len] at HCO
   clear hm3 HSO
   go_wp2_with fail
   refine HCO.out.mono ?_
   rintro e w4 ⟨rfl, hm4⟩
   have HF := Lib.hid hm4
   clear hm4 HCO
   go_wp2_with fail
   go_ret
   exact ⟨a, ca, rfl, HF.out⟩
end Go.Proofs.YtmifgnibalbgjaaGreat
/- More calls of the table beside other things; the fixed calls. -/
namespace Go.Proofs.YtmifgnibalbgjaaGreat
open Go.RowKit set_option linter.unusedVariables false set_option linter.unusedSimpArgs false
section
variable {w0 w : World} {D0 : List Nat} {p : Nat} {L : List Li} {r : List Asn} [Stables r]
end
theorem rise_one (x : Int) : riseI [x] = [x] := by
 have h : Lib.compactUpTo #[x] 1 = [x] := by rw [Lib.compactUpTo_succ]; simp [Lib.compactUpTo, Lib.keeps]
 simpa [riseI, sortI, Lib.compact] using h
end Go.Proofs.YtmifgnibalbgjaaGreat
/- Plain laws: who came later doesn't come in ahead; when all have left nobody is there; each once, rising. -/
namespace Go.Proofs.YtmifgnibalbgjaaGreat
open Go.RowKit set_option linter.unusedVariables false set_option linter.unusedSimpArgs false
theorem compact_snoc (zs : List Int) (x : Int) : Lib.compact (zs ++ [x]) = Lib.compact zs ++ (if zs.getLast? = some x then [] else [x]) := by
 have hget : ∀ j, j < zs.length → (zs ++ [x]).toArray[j]! = zs.toArray[j]! := fun j hj => by
  rw [getElem!_pos _ j (by simp; omega), getElem!_pos _ j (by simpa using hj)]
  simp [List.getElem_append_left hj]
 unfold Lib.compact
 rw [List.length_append, List.length_singleton, Lib.compactUpTo_succ]
 congr 1
 ·unfold Lib.compactUpTo
  have h1 : (List.range zs.length).filter (Lib.keeps (zs ++ [x]).toArray) = (List.range zs.length).filter (Lib.keeps zs.toArray) := by
   refine List.filter_congr fun j hj => ?_
   have hj := List.mem_range.1 hj
   unfold Lib.keeps
   rw [hget j hj]
   by_cases h0 : j = 0
   ·subst h0; simp
   ·rw [hget (j - 1) (by omega)]
  rw [h1]
  refine List.map_congr_left fun j hj => hget j (List.mem_range.1 (List.mem_filter.1 hj).1)
 ·have hx : (zs ++ [x]).toArray[zs.length]! = x := by
   rw [getElem!_pos _ zs.length (by simp)]; simp
  rw [hx]
  unfold Lib.keeps
  rw [hx]
  by_cases h0 : zs.length = 0
  ·obtain rfl := List.eq_nil_of_length_eq_zero h0
   simp
  ·rw [hget (zs.length - 1) (by omega), getElem!_pos _ (zs.length - 1) (by simp; omega)]
   have hl : zs.getLast? = some (zs[zs.length - 1]'(by omega)) := by
    rw [List.getLast?_eq_getElem?, List.getElem?_eq_getElem (by omega)]
   rw [hl]
   by_cases e : x = zs[zs.length - 1]'(by omega)
   ·simp [h0, ← e]
   ·have e2 : ¬ zs[zs.length - 1]'(by omega) = x := fun h => e h.symm
    simp [e, e2]
theorem snoc_ind {p : List Int → Prop} (h0 : p []) (h1 : ∀ l x, p l → p (l ++ [x])) (zs : List Int) : p zs := by
 have h : ∀ l : List Int, p l.reverse := fun l => by
  induction l with
  | nil => exact h0
  | cons x r ih => rw [List.reverse_cons]; exact h1 _ _ ih
 have := h zs.reverse
 rwa [List.reverse_reverse] at this
theorem compact_sorted (zs : List Int) : zs.Pairwise (· ≤ ·) → (∀ x, x ∈ Lib.compact zs ↔ x ∈ zs) ∧ (Lib.compact zs).Pairwise (· < ·) := by
 refine snoc_ind (p := fun zs => zs.Pairwise (· ≤ ·) → (∀ x, x ∈ Lib.compact zs ↔ x ∈ zs) ∧ (Lib.compact zs).Pairwise (· < ·)) (fun _ => ⟨fun x => by simp [Lib.compact, Lib.compactUpTo], by simp [Lib.compact, Lib.compactUpTo]⟩) (fun zs x ih h => ?_) zs
 obtain ⟨h1, -, h2⟩ := List.pairwise_append.1 h
 obtain ⟨i1, i2⟩ := ih h1
 rw [compact_snoc]
 split
 ·rename_i hl
  have hm : x ∈ zs := List.mem_of_getLast? hl
  rw [List.append_nil]
  refine ⟨fun y => ?_, i2⟩
  rw [i1, List.mem_append]
  constructor
  ·exact .inl
  ·rintro (h | h)
   ·exact h
   ·rw [List.mem_singleton.1 h]; exact hm
 ·rename_i hl
  refine ⟨fun y => by rw [List.mem_append, List.mem_append, i1], List.pairwise_append.2 ⟨i2, List.pairwise_singleton _ _, fun y hy z hz => ?_⟩⟩
  obtain rfl := List.mem_singleton.1 hz
  have hy := (i1 y).1 hy
  have hle := h2 y hy z (by simp)
  have hne : y ≠ z := by
   rintro rfl
   obtain ⟨q, hq⟩ : ∃ q, zs.getLast? = some q := by
    cases zs with
    | nil => cases hy
    | cons a t => exact ⟨_, List.getLast?_eq_some_getLast (by simp)⟩
   have hqm : q ∈ zs := List.mem_of_getLast? hq
   have h3 := h2 q hqm y (by simp)
   have h4 : y ≤ q := by
    have hlast := List.getLast?_eq_some_iff.1 hq
    obtain ⟨t, rfl⟩ := hlast
    rcases List.mem_append.1 hy with h5 | h5
    ·exact (List.pairwise_append.1 h1).2.2 y h5 q (by simp)
    ·rw [List.mem_singleton.1 h5]; exact Int.le_refl _
   exact hl (by rw [hq]; congr 1; omega)
  omega
theorem sortI_sorted (l : List Int) : (sortI l).Pairwise (· ≤ ·) := by
 have := List.pairwise_mergeSort (le := fun x y : Int => decide (x ≤ y)) (fun a b c h1 h2 => by simp at *; omega) (fun a b => by simp; omega) l
 exact this.imp fun h => by simpa using h
theorem rise_mem {l : List Int} {x : Int} : x ∈ riseI l ↔ x ∈ l := by
 unfold riseI
 rw [(compact_sorted _ (sortI_sorted l)).1]
 exact (List.mergeSort_perm l _).mem_iff
theorem rise_strict (l : List Int) : (riseI l).Pairwise (· < ·) := (compact_sorted _ (sortI_sorted l)).2
theorem strict_ext : ∀ {a b : List Int}, a.Pairwise (· < ·) → b.Pairwise (· < ·) → (∀ x, x ∈ a ↔ x ∈ b) → a = b
 | [], [], _, _, _ => rfl
 | [], y :: b, _, _, h => by have := (h y).2 (by simp); cases this
 | x :: a, [], _, _, h => by have := (h x).1 (by simp); cases this
 | x :: a, y :: b, ha, hb, h => by
  obtain ⟨a1, a2⟩ := List.pairwise_cons.1 ha
  obtain ⟨b1, b2⟩ := List.pairwise_cons.1 hb
  have e : x = y := by
   rcases List.mem_cons.1 ((h x).1 (by simp)) with e | e
   ·exact e
   ·rcases List.mem_cons.1 ((h y).2 (by simp)) with e2 | e2
    ·exact e2.symm
    ·have := a1 y e2; have := b1 x e; omega
  subst e
  rw [strict_ext a2 b2 fun z => ?_]
  have hz := h z
  rw [List.mem_cons, List.mem_cons] at hz
  constructor
  ·intro h1
   rcases hz.1 (.inr h1) with h2 | h2
   ·have := a1 z h1; omega
   ·exact h2
  ·intro h1
   rcases hz.2 (.inr h1) with h2 | h2
   ·have := b1 z h1; omega
   ·exact h2
theorem rise_of_nil : riseI [] = [] := by simp [riseI, sortI, Lib.compact, Lib.compactUpTo]
end Go.Proofs.YtmifgnibalbgjaaGreat
