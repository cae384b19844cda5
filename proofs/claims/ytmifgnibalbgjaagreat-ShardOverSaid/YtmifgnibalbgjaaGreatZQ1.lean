/- All cells, told; all rows of the table of transactions, told. -/
import Derived.Test.YtmifgnibalbgjaaGreatZO2
namespace Go.Proofs.YtmifgnibalbgjaaGreat
open Go.RowKit set_option linter.unusedVariables false set_option linter.unusedSimpArgs false
def ceFlat : List (ByteArray × Ve) → List Value
 | [] => []
 | p :: r => .string p.1 :: .slice p.2.a p.2.n p.2.c :: ceFlat r
theorem ceFlat_append : ∀ (X Y : List (ByteArray × Ve)), ceFlat (X ++ Y) = ceFlat X ++ ceFlat Y
 | [], _ => rfl
 | p :: r, Y => by simp only [List.cons_append, ceFlat, ceFlat_append r Y]
theorem ceFlat_len : ∀ (X : List (ByteArray × Ve)), (ceFlat X).length = X.length * 2
 | [] => rfl
 | p :: r => by simp only [ceFlat, List.length_cons, ceFlat_len r]; omega
theorem infoCe : (Tryz.prog.info? 64).map (fun i => (i.zero, i.size, i.bytes)) = some (some (.agg #[.string ⟨#[]⟩, .slice none 0 0]), 2, 40) := by kernel_rfl
instance stVes {X : List (ByteArray × Ve)} : Stables (X.map fun p => Ve.row p.2) := stables_map (fun _ => inferInstance) X
/-- an answer that is all cells. -/
def AllP (w : World) (C : Cl) (e : Ending) (w' : World) : Prop := ∃ b d X, e = .returned (.slice b C.length d) ∧ vesC X = C ∧ Mem w [] w' (RowA 64 2 b C.length d (ceFlat X) :: X.map fun p => Ve.row p.2)
theorem kGet_of_memK {E : List (ByteArray × Ve)} (hL : E.Pairwise fun p q => (strK (P := Tryz.prog) Tryz.underlying9).lt p.1 q.1 = true) {p : ByteArray × Ve} (hp : p ∈ E) : kGet p.1 E = some p.2 := by
 induction E with
 | nil => cases hp
 | cons y r ih =>
  rw [List.pairwise_cons] at hL
  rcases List.mem_cons.1 hp with rfl | h
  ·unfold kGet
   rw [List.find?_cons_of_pos (by simp)]
   rfl
  ·have h2 : y.1 ≠ p.1 := (ordS Tryz.underlying9).ne (hL.1 _ h)
   have h3 := ih hL.2 h
   unfold kGet at h3 ⊢
   rw [List.find?_cons_of_neg (by simpa using h2)]
   exact h3
set_option maxRecDepth 100000 in
set_option maxHeartbeats 2000000 in
theorem cells_sorted {p b : Nat} {E : List (ByteArray × Ve)} {last : Int} {w : World} {D D' : List Nat} (hm : KMapA (strK Tryz.underlying9) b (E.map fun q => (q.1, Ve.val q.2)) w D) (hc : w.cell? ⟨p, 0, none⟩ = some (.map (some b))) (hn : E.length ≤ 1000) :
  Calls Tryz.prog 97 #[.pointer (some ⟨p, 0, none⟩)] w fun e w' => ∃ a c, e = .returned (.slice a E.length c) ∧ Row w' 9 1 a E.length c (E.map fun q => Value.string q.1) ∧ (∀ x ∈ blkOf a, w.heap.size ≤ x) ∧ Below w.heap.size w w' := by
 have HS := Lib.hid (sorted142 hm (by simp; omega))
 clear hm
 go_enter Tryz.func97, Tryz.ntmps97
 go_wp2_with fail
 refine (keys142 b w).mono ?_
 rintro e w1 ⟨rfl, rfl⟩
 go_wp2_with fail
 refine HS.out.mono ?_
 rintro e w2 ⟨ka, kc, rfl, hr, hf, hb⟩
 simp only [List.length_map, List.map_map, Function.comp_def] at hr
 have HF := Lib.hid (And.intro hr (And.intro hf hb))
 clear hr hf hb HS
 simp only [List.length_map]
 go_wp2_with fail
 go_ret
 exact ⟨ka, kc, rfl, HF.out.1, fun x hx => Nat.le_of_lt (HF.out.2.1 x hx), HF.out.2.2⟩
set_option maxRecDepth 100000 in
set_option maxHeartbeats 4000000 in
theorem cells_all {p : Nat} {C : Cl} {last : Int} {w : World} {D : List Nat} (h : CellsA p C last w D) (hn : C.length ≤ 1000) (hK : ∀ q ∈ C, q.1.size ≤ maxLen ∧ q.2.length ≤ 1000) : Calls Tryz.prog 47 #[.pointer (some ⟨p, 0, none⟩)] w (AllP w C) := by
 obtain ⟨b, E, e, M⟩ := Mem.cellsOpen (Mem.start h)
 have hEl : E.length = C.length := by have := congrArg List.length e; simpa [vesC] using this
 obtain ⟨DK, hDK⟩ := Mem.krMap [BlockA p #[.map (some b), .int .i64 last, .int .i64 0] 142] (r := []) M
 have HRS := Lib.hid (Mem.krRise [BlockA p #[.map (some b), .int .i64 last, .int .i64 0] 142] (r := []) M)
 have hc0 := (Mem.cellAt (i := 0) (v := .map (some b)) [] (r := [KRowsA (strK Tryz.underlying9) Ve.val Ve.row b E]) M rfl).1
 have HS := Lib.hid (cells_sorted (D' := D) (last := last) hDK hc0 (by omega))
 have HM := Lib.hid M
 have HEN := Lib.hid (show ∀ j (hj : j < E.length), E[j].1.size ≤ maxLen ∧ E[j].2.l.length ≤ 1000 from fun j hj => hK (E[j].1, E[j].2.l) (by rw [← e]; exact List.mem_map.2 ⟨E[j], List.getElem_mem hj, rfl⟩))
 have HEL := Lib.hid hEl
 have HE := Lib.hid e
 have hn4 : E.length ≤ 1000 := by omega
 clear h M hDK e hK hn hEl
 go_enter Tryz.func47, Tryz.ntmps47
 go_wp2_with fail
 refine HS.out.mono ?_
 rintro e w2 ⟨ka, kc, rfl, hr, hf, hb⟩
 have M0 := Lib.hid (((Mem.nil w).new hb (As := [RowA 9 1 ka E.length kc (E.map fun q => Value.string q.1)]) (D' := blkOf ka) (all_one ⟨rfl, hr⟩) hf).new (Below.refl _ _) (As := [RowA 64 2 none 0 0 (ceFlat [])]) (D' := []) (all_one ⟨rfl, Row.nil _ _ _⟩) (by simp))
 clear hr hf hb HS hc0
 go_wp2_with fail
 go_loopw [3, 5, 11] (fun v3 v5 jv wr => ∃ i : Nat, i ≤ E.length ∧ jv = .int .i64 (i : Nat) ∧ Hid (∃ b d X, v3 = .slice b i d ∧ vesC X = vesC (E.take i) ∧ Mem w [] wr (RowA 64 2 b i d (ceFlat X) :: ((X.map fun p => Ve.row p.2) ++ [RowA 9 1 ka E.length kc (E.map fun q => Value.string q.1)])))) (fun _ _ jv _ => E.length - (intOf jv).toNat)
 case atStart => exact ⟨0, Nat.zero_le _, rfl, Lib.hid ⟨none, 0, [], rfl, rfl, M0.out⟩⟩
 case round =>
  obtain ⟨w3, rfl⟩ : ∃ w3, w3 = wr := ⟨_, rfl⟩
  obtain ⟨i, hi, rfl, hS⟩ := hrel
  clear M0
  obtain ⟨b1, d, X, rfl, hX, hm⟩ := hS.out
  clear hS
  by_cases hlt : i < E.length
  ·obtain ⟨gk, hgk, hck⟩ := (Mem.rowAt (RowA 64 2 b1 i d (ceFlat X) :: (X.map fun p => Ve.row p.2)) (r := []) hm).cellAt i (by simpa using hlt)
   subst hgk
   rw [List.getElem_map] at hck
   obtain ⟨hks, hls⟩ := HEN.out i hlt
   have hgE : kGet E[i].1 E = some E[i].2 := kGet_of_memK HRS.out (List.getElem_mem hlt)
   have M3 := HM.out.below hm.bel
   have hl1 := (Mem.krLook [BlockA p #[.map (some b), .int .i64 last, .int .i64 0] 142] (r := []) M3 Tryz.underlying140 (zero62 w3) (x := E[i].1) hks).2
   rw [hgE] at hl1
   have hc0 := (Mem.cellAt (i := 0) (v := .map (some b)) [] (r := [KRowsA (strK Tryz.underlying9) Ve.val Ve.row b E]) M3 rfl).1
   obtain ⟨A, B, hE2, hA, hB, hO⟩ := Mem.krOpen [BlockA p #[.map (some b), .int .i64 last, .int .i64 0] 142] (r := []) M3 hgE
   have sA : Stables (A.map fun p => Ve.row p.2) := stables_map (fun _ => inferInstance) A
   have sB : Stables (B.map fun p => Ve.row p.2) := stables_map (fun _ => inferInstance) B
   have hrow := Mem.rowAt _ hO
   have HFIN : Hid (∀ W b' d' a' c', Mem w [] W (RowA 162 3 a' E[i].2.n c' (veFlat E[i].2.l) :: RowA 64 2 b' (i + 1) d' (ceFlat X ++ [.string E[i].1, .slice a' E[i].2.n c']) :: ((X.map fun p => Ve.row p.2) ++ [RowA 9 1 (some ⟨gk, 0, none⟩) E.length kc (E.map fun q => Value.string q.1)])) → ∃ b d X, Value.slice b' (i + 1) d' = .slice b (i + 1) d ∧ vesC X = vesC (E.take (i + 1)) ∧ Mem w [] W (RowA 64 2 b (i + 1) d (ceFlat X) :: ((X.map fun p => Ve.row p.2) ++ [RowA 9 1 (some ⟨gk, 0, none⟩) E.length kc (E.map fun q => Value.string q.1)]))) := Lib.hid fun W b' d' a' c' hW => by
    refine ⟨b', d', X ++ [(E[i].1, ⟨a', E[i].2.n, c', E[i].2.l⟩)], rfl, ?_, ?_⟩
    ·rw [List.take_succ_eq_append_getElem hlt]
     unfold vesC at hX ⊢
     rw [List.map_append, List.map_append, hX]
     rfl
    ·rw [ceFlat_append]
     refine Mem.perm hW (perm_ct fun x => ?_)
     rw [show ceFlat [(E[i].1, (⟨a', E[i].2.n, c', E[i].2.l⟩ : Ve))] = [.string E[i].1, .slice a' E[i].2.n c'] from rfl]
     simp only [List.map_append, List.map_cons, List.map_nil, cnt_cons, cnt_append, cnt_nil, List.cons_append, List.nil_append, Ve.row]
     omega
   have HX := Lib.hid hX
   clear hO hA hB sA sB hE2 hgE M3
   generalize E[i] = z at *
   obtain ⟨zk, ⟨za, zn, zc, zl⟩⟩ := z
   simp only at hck hks hls hrow HFIN
   have hl2 : (Instr.lookup 140 (.map (some b)) (.string zk) false).run Tryz.prog w3 = .ok (.slice za zn zc) w3 := hl1
   clear hl1
   have HCL := Lib.hid ((cloV_any za zn zc (veFlat zl) w3 (SrcV.row hrow) (veFlat_one zl) (by have := hrow.len; rw [veFlat_len] at this; omega)).mono fun e W' (h : ∃ a' c', e = .returned (.slice a' zn c') ∧ Row W' 162 3 a' zn c' (veFlat zl) ∧ Below w3.heap.size w3 W' ∧ ∀ x ∈ blkOf a', w3.heap.size ≤ x) => (by
    obtain ⟨a', c', he, hr, hb, hf⟩ := h
    exact ⟨a', c', he, hm.new hb (As := [RowA 162 3 a' zn c' (veFlat zl)]) (all_one ⟨rfl, hr⟩) hf⟩ : ∃ a' c', e = .returned (.slice a' zn c') ∧ Mem w [] W' (RowA 162 3 a' zn c' (veFlat zl) :: RowA 64 2 b1 i d (ceFlat X) :: ((X.map fun p => Ve.row p.2) ++ [RowA 9 1 (some ⟨gk, 0, none⟩) E.length kc (E.map fun q => Value.string q.1)]))))
   clear hm hX hrow
   go_wp2_with fail
   refine HCL.out.mono ?_
   rintro e w4 ⟨a', c', rfl, hm4⟩
   obtain ⟨b4, d4, w5, hrun, hn5⟩ := Mem.app1 (P := Tryz.prog) (t := 50) (ty := 50) [RowA 162 3 a' zn c' (veFlat zl)] (r := (X.map fun p => Ve.row p.2) ++ [RowA 9 1 (some ⟨gk, 0, none⟩) E.length kc (E.map fun q => Value.string q.1)]) Tryz.underlying50 infoCe (by rfl) (by decide) hm4 [.string zk, .slice a' zn c'] (by rfl) (by simp [Value.oneCell']) (by omega) (by decide)
   have HRUN := Lib.hid hrun
   have HF := Lib.hid (HFIN.out w5 b4 d4 a' c' hn5)
   clear hrun hn5 hm4 HCL HFIN hck hc0 hl2
   go_wp2_with ((at_builtin; refine wpList_appendR _ rfl (.tmp 15) (.tmp 25) 50 50 rfl (.slice b1 i d) (.slice (some ⟨w4.heap.size, 0, none⟩) 1 1) rfl rfl HRUN.out ?_))
   go_roundw
   case rel => exact ⟨i + 1, by omega, by go_num, HF⟩
   case measure => simp [intOf]; omega
  ·obtain rfl : i = E.length := by omega
   rw [List.take_length] at hX
   have HF : Hid (AllP w C (.returned (.slice b1 E.length d)) w3) := Lib.hid ⟨b1, d, X, by rw [HEL.out], by rw [hX]; exact HE.out, by rw [← HEL.out]; exact Mem.cutEnd (RowA 64 2 b1 E.length d (ceFlat X) :: (X.map fun p => Ve.row p.2)) hm⟩
   clear hX hm
   go_wp2_with fail
   go_ret
   exact HF.out
set_option maxRecDepth 100000 in
set_option maxHeartbeats 2000000 in
theorem st_rows {g : Nat} {l : List Rw} {w : World} {D : List Nat} (h : StA g l w D) (hn : l.length ≤ 1000) : Calls Tryz.prog 49 #[.pointer (some ⟨g, 0, none⟩)] w fun e w' => ∃ a c, e = .returned (.slice a l.length c) ∧ Mem w [] w' [RowA 85 5 a l.length c (rwFlat l)] := by
 obtain ⟨a, c, h⟩ := h
 have M := Mem.ofAll h
 have hc := (Mem.cellAt (i := 0) (v := .slice a l.length c) [] (r := [RowA 85 5 a l.length c (rwFlat l)]) M rfl).1
 have HC := Lib.hid (cloR_any a l.length c (rwFlat l) w (SrcV.row (Mem.rowAt [BlockA g #[.slice a l.length c] 146] (r := []) M)) (rwFlat_one l) (by omega))
 clear h M
 go_enter Tryz.func49, Tryz.ntmps49
 go_wp2_with fail
 refine HC.out.mono ?_
 rintro e w1 ⟨a', c', rfl, hr, hb, hf⟩
 have HF := Lib.hid ((Mem.nil w).new hb (As := [RowA 85 5 a' l.length c' (rwFlat l)]) (all_one ⟨rfl, hr⟩) hf)
 clear hr hb hf
 go_wp2_with fail
 go_ret
 exact ⟨a', c', rfl, HF.out⟩
end Go.Proofs.YtmifgnibalbgjaaGreat
