/- Keys; Owners. -/
import Derived.Test.YtnemgmlhcjhdhaaAG
namespace Go.Proofs.Ytnemgmlhcjhdhaa
open Go.RowKit
theorem infoStr : (Try.prog.info? 9).map (fun i => (i.zero, i.size, i.bytes)) = some (some (.string ⟨#[]⟩), 1, 16) := by kernel_rfl
def strsV (l : List ByteArray) : List Value := l.map .string
abbrev RowS (a : Option Addr) (c : Nat) (l : List ByteArray) : Asn := RowA 9 1 a l.length c (strsV l)
def NewS (w : World) (l : List ByteArray) (e : Ending) (w' : World) : Prop := ∃ a c, e = .returned (.slice a l.length c) ∧ Mem w [] w' [RowS a c l]
set_option maxRecDepth 100000 in
set_option maxHeartbeats 2000000 in
theorem tab_keys (p : Nat) (L : List Li) (w : World) (D : List Nat) (h : TabA p L w D) (hb : Sm 400 L) : Calls Try.prog 23 #[.pointer (some ⟨p, 0, none⟩)] w (NewS w (L.map (·.key))) := by
  obtain ⟨la, n, c, hc, hl⟩ := LinesAt.tab h
  obtain rfl := hl.1
  have HL := Lib.hid hl
  have hn4 : L.length ≤ 400 := hb.1
  clear h hl hb
  go_enter Try.func23, Try.ntmps23
  go_wp2_with fail
  go_loopw [3, 13] (fun v jv wr => ∃ i : Nat, i ≤ L.length ∧ jv = .int .i64 (i : Nat) ∧ Hid (NewRow 9 1 w (strsV ((L.take i).map (·.key))) i v wr)) (fun _ jv _ => L.length - (intOf jv).toNat)
  case atStart => exact ⟨0, Nat.zero_le _, rfl, Lib.hid (NewRow.nil 9 1 w)⟩
  case round =>
    obtain ⟨w1, rfl⟩ : ∃ w1, w1 = wr := ⟨_, rfl⟩
    obtain ⟨i, hi, rfl, hS⟩ := hrel
    obtain ⟨a5, c5, rfl, hr5, hb5, hf5⟩ := hS.out
    by_cases hlt : i < L.length
    · obtain ⟨g, o, x, rfl, hx, hxk, -, -, -, -⟩ := HL.out.2 i hlt
      obtain ⟨k0, k1, k2⟩ := hx.below hb5
      have htk : (L.take (i + 1)).map (·.key) = (L.take i).map (·.key) ++ [x.key] := by rw [List.take_succ_eq_append_getElem hlt, List.map_append, hxk]; rfl
      have HTK := Lib.hid htk
      have hS2 := NewRow.below (w := w) ⟨a5, c5, rfl, hr5, hb5, hf5⟩ (bel_new w1 (.cells #[.string x.key, slv x.hs, slv x.qs] 34))
      obtain ⟨b6, c6, w6, hrun, hnr⟩ := NewRow.app (P := Try.prog) (t := 48) Try.underlying48 infoStr (by rfl) (by decide) hS2 [.string x.key] (by rfl) (by simp [Value.oneCell']) (by omega) (by decide) 48
      rw [show (w1.alloc (.cells #[.string x.key, slv x.hs, slv x.qs] 34)).heap.size = w1.heap.size + 1 by simp only [World.size_alloc]] at hrun
      have HRUN := Lib.hid hrun
      have HNR := Lib.hid hnr
      clear hrun hnr hS2 htk hx hxk hS hr5 hb5 hf5
      obtain ⟨xk, ⟨ha, hn, hc'⟩, ⟨qa, qn, qc⟩⟩ := x
      simp only [slv] at k0 k1 k2 HRUN HNR HTK
      go_wp2_with ((at_builtin; refine wpList_appendR _ rfl (.tmp 17) (.tmp 20) 48 48 rfl (.slice a5 i c5) (.slice (some ⟨w1.heap.size + 1, 0, none⟩) 1 1) rfl rfl HRUN.out ?_))
      go_roundw
      case rel => exact ⟨i + 1, by omega, by go_num, Lib.hid (by rw [HTK.out]; simpa [strsV] using HNR.out)⟩
      case measure => simp [intOf]; omega
    · obtain rfl : i = L.length := by omega
      rw [List.take_length] at hr5
      have HF : Hid (Mem w [] w1 [RowS a5 c5 (L.map (·.key))]) := Lib.hid (by
        unfold RowS
        rw [List.length_map]
        exact (Mem.nil w).new hb5 (As := [RowA 9 1 a5 L.length c5 (strsV (L.map (·.key)))]) (all_one ⟨rfl, hr5⟩) hf5)
      clear hr5 hb5 hf5
      go_wp2_with fail
      go_ret
      exact ⟨a5, c5, congrArg (fun n => Ending.returned (.slice a5 n c5)) (show L.length = (L.map (·.key)).length by rw [List.length_map]), HF.out⟩
/-- all who hold or wait. -/
def ownsLi (l : Li) : List Int := l.hs.map (·.owner) ++ l.qs.map (·.owner)
def ownsL (L : List Li) : List Int := L.flatMap ownsLi
theorem ownsL_next {L : List Li} {j : Nat} (h : j < L.length) : ownsL (L.take (j + 1)) = ownsL (L.take j) ++ L[j].hs.map (·.owner) ++ L[j].qs.map (·.owner) := by
  unfold ownsL ownsLi
  rw [List.take_succ_eq_append_getElem h, List.flatMap_append]; simp
theorem ownsL_len {N : Nat} {L : List Li} (hb : Sm N L) : ∀ j, j ≤ L.length → (ownsL (L.take j)).length ≤ j * N
  | 0, _ => by simp [ownsL]
  | j + 1, h => by
    have ih := ownsL_len hb j (by omega)
    rw [ownsL_next (by omega), List.length_append, List.length_append, List.length_map, List.length_map, Nat.succ_mul]
    have := hb.2 L[j] (List.getElem_mem _)
    omega
theorem take_owner {l : List Hd} {i : Nat} (h : i < l.length) : (l.take (i + 1)).map (·.owner) = (l.take i).map (·.owner) ++ [l[i].owner] := by
  rw [List.take_succ_eq_append_getElem h, List.map_append]; rfl
theorem RowI.app {w0 w : World} {D0 : List Nat} (l : List Asn) {r : List Asn} [Stables l] [Stables r] {a : Option Addr} {c : Nat} {I : List Int} (h : Mem w0 D0 w (l ++ RowI a c I :: r)) (x : Int) (hn : I.length ≤ 1000000) :
    ∃ b' cap' w', (Builtin.append_ #[43, 43] 43 #[.slice a I.length c, .slice (some ⟨w.heap.size, 0, none⟩) 1 1]).run Try.prog (w.alloc (.cells #[.int .i64 x] 3)) = .ok (.slice b' (I.length + 1) cap') w' ∧ Mem w0 D0 w' (l ++ RowI b' cap' (I ++ [x]) :: r) := by
  obtain ⟨b', cap', w', h1, h2⟩ := Mem.app1 (P := Try.prog) (t := 43) (ty := 43) l Try.underlying43 infoInt (by rfl) (by decide) h [.int .i64 x] (by rfl) (by simp [Value.oneCell']) hn (by decide)
  refine ⟨b', cap', w', h1, ?_⟩
  have e : RowI b' cap' (I ++ [x]) = RowA 3 1 b' (I.length + 1) cap' (intsV I ++ [.int .i64 x]) := by unfold RowI; rw [List.length_append, List.length_singleton]; simp [intsV]
  rw [e]; exact h2
set_option maxRecDepth 100000 in
set_option maxHeartbeats 8000000 in
theorem tab_owners (p : Nat) (L : List Li) (w : World) (D : List Nat) (h : TabA p L w D) (hb : Sm 400 L) : Calls Try.prog 24 #[.pointer (some ⟨p, 0, none⟩)] w (NewI w (riseI (ownsL L))) := by
  obtain ⟨la, n, c, hc, hl⟩ := LinesAt.tab h
  obtain rfl := hl.1
  have HL := Lib.hid hl
  have HSM := Lib.hid hb
  have hn4 : L.length ≤ 400 := hb.1
  have M0 := Lib.hid ((Mem.nil w).new (Below.refl _ _) (As := [RowI none 0 []]) (all_one ⟨rfl, Row.nil _ _ _⟩) (by simp [blkOf]))
  clear h hl hb
  go_enter Try.func24, Try.ntmps24
  go_wp2_with fail
  go_loopw [3, 17] (fun v jv wr => ∃ j : Nat, j ≤ L.length ∧ jv = .int .i64 (j : Nat) ∧ Hid (∃ a ca, v = .slice a (ownsL (L.take j)).length ca ∧ Mem w [] wr [RowI a ca (ownsL (L.take j))])) (fun _ jv _ => L.length - (intOf jv).toNat)
  case atStart => exact ⟨0, Nat.zero_le _, rfl, Lib.hid ⟨none, 0, rfl, M0.out⟩⟩
  case round =>
    obtain ⟨W1, rfl⟩ : ∃ W1, W1 = wr := ⟨_, rfl⟩
    obtain ⟨j, hj, rfl, hS⟩ := hrel
    clear M0
    obtain ⟨a, ca, rfl, hm⟩ := hS.out
    clear hS
    by_cases hlt : j < L.length
    · obtain ⟨g, o, x, rfl, hx, -, hxh, hxq, -, -⟩ := HL.out.2 j hlt
      obtain ⟨k0, k1, k2⟩ := hx.below hm.bel
      have HH := Lib.hid hxh
      have HQ := Lib.hid hxq
      have HSJ := Lib.hid (HSM.out.2 _ (List.getElem_mem hlt))
      have HLI := Lib.hid (ownsL_len HSM.out j (by omega))
      have hmb := ownsL_next hlt
      have HMB := Lib.hid hmb
      clear hx hxh hxq hmb
      generalize hMJ : ownsL (L.take j) = IJ at *
      clear hMJ
      generalize L[j].hs = H at *
      generalize L[j].qs = Q at *
      obtain ⟨xk, ⟨ha, hn, hc'⟩, ⟨qa, qn, qc⟩⟩ := x
      simp only at k0 k1 k2 HH HQ
      obtain rfl : hn = H.length := HH.out.1
      obtain rfl : qn = Q.length := HQ.out.1
      have hlen : IJ.length + H.length + Q.length ≤ 200000 := by
        have := HSJ.out; have := HLI.out
        have : j * 400 ≤ 400 * 400 := Nat.mul_le_mul_right _ (by omega)
        omega
      have M1 := Lib.hid (hm.block #[.string xk, .slice ha H.length hc', .slice qa Q.length qc] 34)
      clear hm
      go_wp2_with fail
      obtain ⟨W2, hW2⟩ : ∃ W2, W2 = W1.alloc (.cells #[.string xk, .slice ha H.length hc', .slice qa Q.length qc] 34) := ⟨_, rfl⟩
      rw [← hW2] at M1 ⊢
      clear hW2 k0 k1 k2
      generalize W1.heap.size = b7 at *
      go_loopw [3, 24] (fun v jv wr => ∃ i : Nat, i ≤ H.length ∧ jv = .int .i64 (i : Nat) ∧ Hid (∃ a ca, v = .slice a (IJ ++ (H.take i).map (·.owner)).length ca ∧ Mem w [] wr [RowI a ca (IJ ++ (H.take i).map (·.owner)), BlockA b7 #[.string xk, .slice ha H.length hc', .slice qa Q.length qc] 34])) (fun _ jv _ => H.length - (intOf jv).toNat)
      case atStart => exact ⟨0, Nat.zero_le _, rfl, Lib.hid ⟨a, ca, by simp, by simpa using M1.out.perm (List.Perm.swap _ _ _)⟩⟩
      case round =>
        obtain ⟨w1, rfl⟩ : ∃ w1, w1 = wr := ⟨_, rfl⟩
        obtain ⟨i, hi, rfl, hS⟩ := hrel
        obtain ⟨a, ca, rfl, hm⟩ := hS.out
        clear hS M1
        by_cases hlti : i < H.length
        · obtain ⟨gq, oq, rfl, hcz⟩ := HH.out.2 i hlti
          obtain ⟨z0, z1⟩ := hcz.below hm.bel
          have HTK := Lib.hid (take_owner hlti)
          have hlt9 : (IJ ++ (H.take i).map (·.owner)).length ≤ 1000000 := by rw [List.length_append, List.length_map, List.length_take]; omega
          generalize H[i] = z at *
          generalize hI : IJ ++ (H.take i).map (·.owner) = I at *
          have HI := Lib.hid hI
          clear hI hcz
          obtain ⟨zo, zm⟩ := z
          simp only at z0 z1 HTK
          obtain ⟨b6, c6, w6, hrun, hnr⟩ := RowI.app [BlockA w1.heap.size #[.int .i64 zo, .int .i64 zm] 36] (hm.block #[.int .i64 zo, .int .i64 zm] 36) zo hlt9
          rw [show (w1.alloc (.cells #[.int .i64 zo, .int .i64 zm] 36)).heap.size = w1.heap.size + 1 by simp only [World.size_alloc]] at hrun
          have HRUN := Lib.hid hrun
          have HF := Lib.hid (Mem.drop [] (r := [RowI b6 c6 (I ++ [zo]), BlockA b7 #[.string xk, .slice (some ⟨gq, oq, none⟩) H.length hc', .slice qa Q.length qc] 34]) hnr)
          have he : Hid (IJ ++ (H.take (i + 1)).map (·.owner) = I ++ [zo]) := Lib.hid (by rw [HTK.out, ← List.append_assoc, HI.out])
          clear hrun hnr hm HI HTK
          go_wp2_with ((at_builtin; refine wpList_appendR _ rfl (.tmp 28) (.tmp 31) 43 43 rfl (.slice a I.length ca) (.slice (some ⟨w1.heap.size + 1, 0, none⟩) 1 1) rfl rfl HRUN.out ?_))
          go_roundw
          case rel => exact ⟨i + 1, by omega, by go_num, Lib.hid ⟨b6, c6, by rw [he.out, List.length_append]; rfl, by rw [he.out]; exact HF.out⟩⟩
          case measure => simp [intOf]; omega
        · obtain rfl : i = H.length := by omega
          rw [List.take_length] at *
          obtain ⟨k2, -⟩ := cell_of_heap (i := 2) (v := .slice qa Q.length qc) (Mem.blk hm (g := b7) (cur := #[.string xk, .slice ha H.length hc', .slice qa Q.length qc]) (T := 34) (by simp)) rfl
          have HM := Lib.hid hm
          have hIL : (IJ ++ H.map (·.owner)).length + Q.length ≤ 200000 := by rw [List.length_append, List.length_map]; omega
          generalize hI : IJ ++ H.map (·.owner) = I at *
          clear hI hm
          go_wp2_with fail
          go_loopw [3, 37] (fun v jv wr => ∃ i : Nat, i ≤ Q.length ∧ jv = .int .i64 (i : Nat) ∧ Hid (∃ a ca, v = .slice a (I ++ (Q.take i).map (·.owner)).length ca ∧ Mem w [] wr [RowI a ca (I ++ (Q.take i).map (·.owner)), BlockA b7 #[.string xk, .slice ha H.length hc', .slice qa Q.length qc] 34])) (fun _ jv _ => Q.length - (intOf jv).toNat)
          case atStart => exact ⟨0, Nat.zero_le _, rfl, Lib.hid ⟨a, ca, by simp, by simpa using HM.out⟩⟩
          case round =>
            obtain ⟨w2, rfl⟩ : ∃ w2, w2 = wr := ⟨_, rfl⟩
            obtain ⟨i, hi, rfl, hS⟩ := hrel
            obtain ⟨a, ca, rfl, hm⟩ := hS.out
            clear hS HM k2
            by_cases hlti : i < Q.length
            · obtain ⟨gq, oq, rfl, hcz⟩ := HQ.out.2 i hlti
              obtain ⟨z0, z1⟩ := hcz.below hm.bel
              have HTK := Lib.hid (take_owner hlti)
              have hlt9 : (I ++ (Q.take i).map (·.owner)).length ≤ 1000000 := by rw [List.length_append, List.length_map, List.length_take]; omega
              generalize Q[i] = z at *
              generalize hI2 : I ++ (Q.take i).map (·.owner) = I2 at *
              have HI := Lib.hid hI2
              clear hI2 hcz
              obtain ⟨zo, zm⟩ := z
              simp only at z0 z1 HTK
              obtain ⟨b6, c6, w6, hrun, hnr⟩ := RowI.app [BlockA w2.heap.size #[.int .i64 zo, .int .i64 zm] 36] (hm.block #[.int .i64 zo, .int .i64 zm] 36) zo hlt9
              rw [show (w2.alloc (.cells #[.int .i64 zo, .int .i64 zm] 36)).heap.size = w2.heap.size + 1 by simp only [World.size_alloc]] at hrun
              have HRUN := Lib.hid hrun
              have HF := Lib.hid (Mem.drop [] (r := [RowI b6 c6 (I2 ++ [zo]), BlockA b7 #[.string xk, .slice ha H.length hc', .slice (some ⟨gq, oq, none⟩) Q.length qc] 34]) hnr)
              have he : Hid (I ++ (Q.take (i + 1)).map (·.owner) = I2 ++ [zo]) := Lib.hid (by rw [HTK.out, ← List.append_assoc, HI.out])
              clear hrun hnr hm HI HTK
              go_wp2_with ((at_builtin; refine wpList_appendR _ rfl (.tmp 41) (.tmp 44) 43 43 rfl (.slice a I2.length ca) (.slice (some ⟨w2.heap.size + 1, 0, none⟩) 1 1) rfl rfl HRUN.out ?_))
              go_roundw
              case rel => exact ⟨i + 1, by omega, by go_num, Lib.hid ⟨b6, c6, by rw [he.out, List.length_append]; rfl, by rw [he.out]; exact HF.out⟩⟩
              case measure => simp [intOf]; omega
            · obtain rfl : i = Q.length := by omega
              rw [List.take_length] at *
              have HF : Hid (Mem w [] w2 [RowI a ca (ownsL (L.take (j + 1)))]) := Lib.hid (by
                rw [HMB.out]; exact Mem.drop [RowI a ca (I ++ Q.map (·.owner))] (r := []) hm)
              have he := HMB.out
              clear hm
              rw [← he]
              go_wp2_with fail
              go_roundw
              case rel => exact ⟨j + 1, by omega, by go_num, Lib.hid ⟨a, ca, rfl, HF.out⟩⟩
              case measure => simp [intOf]; omega
    · obtain rfl : j = L.length := by omega
      have hI6 := ownsL_len HSM.out L.length (Nat.le_refl _)
      rw [List.take_length] at hm hI6 ⊢
      have hB6 : (ownsL L).length ≤ 1000000 := by
        have : L.length * 400 ≤ 400 * 400 := Nat.mul_le_mul_right _ (by omega)
        omega
      have HSO := Lib.hid (mem_sort [] (r := []) hm hB6)
      clear hm hI6
      go_wp2_with fail
      refine HSO.out.mono ?_
      rintro e w3 ⟨rfl, hm3⟩
      have HCO := Lib.hid (mem_compact [] (r := []) hm3 (by rw [sortI_len]; exact hB6))
      rw [sortI_len] at HCO
      clear hm3 HSO
      go_wp2_with fail
      refine HCO.out.mono ?_
      rintro e w4 ⟨rfl, hm4⟩
      have HF := Lib.hid hm4
      clear hm4 HCO
      go_wp2_with fail
      go_ret
      exact ⟨a, ca, rfl, HF.out⟩
end Go.Proofs.Ytnemgmlhcjhdhaa
