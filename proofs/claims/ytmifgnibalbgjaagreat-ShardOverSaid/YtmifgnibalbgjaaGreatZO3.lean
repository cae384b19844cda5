/- Who waits for whom. -/
import Derived.Test.YtmifgnibalbgjaaGreatZO1
import Derived.Test.YtmifgnibalbgjaaGreatZM12
import Derived.Deep.Slices
import Derived.OpenShut
import Derived.Carry
import Derived.Test.YtmifgnibalbgjaaGreatZM7
namespace Go.Proofs.YtmifgnibalbgjaaGreat
open Go.RowKit set_option linter.unusedVariables false set_option linter.unusedSimpArgs false
def egFlat : List (Int × Int) → List Value
 | [] => []
 | p :: r => .int .i64 p.1 :: .int .i64 p.2 :: egFlat r
theorem egFlat_append : ∀ (X Y : List (Int × Int)), egFlat (X ++ Y) = egFlat X ++ egFlat Y
 | [], _ => rfl
 | p :: r, Y => by simp only [List.cons_append, egFlat, egFlat_append r Y]
theorem infoEg : (Tryz.prog.info? 89).map (fun i => (i.zero, i.size, i.bytes)) = some (some (.agg #[.int .i64 0, .int .i64 0]), 2, 16) := by kernel_rfl
def edgeF (L : List Li) (o : Int) : List (Int × Int) := (riseI (blkL L o)).map fun x => (o, x)
def edgesM (L : List Li) : List (Int × Int) := (riseI (ownsL L)).flatMap (edgeF L)
def EdgesP (w : World) (l : List (Int × Int)) (e : Ending) (w' : World) : Prop := ∃ b d, e = .returned (.slice b l.length d) ∧ Mem w [] w' [RowA 89 2 b l.length d (egFlat l)]
theorem flatMap_upto {α β : Type} (f : α → List β) (l : List α) {i : Nat} (h : i < l.length) : ((l.take i).flatMap f).length + (f l[i]).length ≤ (l.flatMap f).length := by
 have h1 : (l.take (i + 1)).flatMap f ++ (l.drop (i + 1)).flatMap f = l.flatMap f := by rw [← List.flatMap_append, List.take_append_drop]
 have h2 := congrArg List.length h1
 rw [List.take_succ_eq_append_getElem h, List.flatMap_append, List.length_append, List.length_append] at h2
 have h3 : ([l[i]].flatMap f).length = (f l[i]).length := by simp
 rw [h3] at h2
 omega
theorem flatMap_next {α β : Type} (f : α → List β) (l : List α) {i : Nat} (h : i < l.length) : (l.take (i + 1)).flatMap f = (l.take i).flatMap f ++ f l[i] := by
 rw [List.take_succ_eq_append_getElem h, List.flatMap_append]
 simp
set_option maxRecDepth 100000 in
set_option maxHeartbeats 4000000 in
theorem sh_edges {g : Nat} {S : Sh} {w : World} {D : List Nat} (h : ShA g S w D) (hb : Sm 64 S.locks) (hE : (edgesM S.locks).length ≤ 1000000) : Calls Tryz.prog 25 #[.pointer (some ⟨g, 0, none⟩)] w (EdgesP w (edgesM S.locks)) := by
 obtain ⟨pc, pl, ps, bl, bd, E, e, hA, M⟩ := h.at
 have HA := Lib.hid fun W (hb : Below w.heap.size w W) => (Mem.shAt (M.below hb) (tx := 0) (by decide)).c3
 have HT := Lib.hid fun W (hb : Below w.heap.size w W) => Mem.get [shB g S pc pl ps bl bd, CellsA pc S.cells S.clast] (A := TabA pl S.locks) (r := StA ps S.rows :: KRowsA (intK Tryz.underlying3) Le.val Le.row bl E :: [KMapA (intK Tryz.underlying3) bd (dnV S.dones)]) (M.below hb)
 have HSM := Lib.hid hb
 have HEE := Lib.hid hE
 have hc3 := hA.c3
 obtain ⟨DC, hDC⟩ := HT.out w (Below.refl _ _)
 have HOW := Lib.hid (tab_owners pl S.locks w DC hDC (hb.mono (by decide)))
 have HUP := Lib.hid fun (i : Nat) (hi : i < (riseI (ownsL S.locks)).length) => flatMap_upto (edgeF S.locks) (riseI (ownsL S.locks)) hi
 have HNX := Lib.hid fun (i : Nat) (hi : i < (riseI (ownsL S.locks)).length) => flatMap_next (edgeF S.locks) (riseI (ownsL S.locks)) hi
 have HED : Hid (edgesM S.locks = (riseI (ownsL S.locks)).flatMap (edgeF S.locks)) := Lib.hid rfl
 have hown : (riseI (ownsL S.locks)).length ≤ 1000000 := by
  have h1 := Lib.compact_length_le (sortI (ownsL S.locks))
  rw [sortI_len] at h1
  have h2 := ownsL_len hb S.locks.length (Nat.le_refl _)
  rw [List.take_length] at h2
  have h3 : S.locks.length * 64 ≤ 64 * 64 := Nat.mul_le_mul_right _ hb.1
  unfold riseI
  omega
 clear hDC M hA h hb hE e
 generalize edgesM S.locks = ED at *
 generalize riseI (ownsL S.locks) = OW at *
 go_enter Tryz.func25, Tryz.ntmps25
 go_wp2_with fail
 refine HOW.out.mono ?_
 rintro e w1 ⟨ao, co, rfl, hm⟩
 have M1 := Lib.hid (hm.new (Below.refl _ _) (As := [RowA 89 2 none 0 0 (egFlat [])]) (D' := []) (all_one ⟨rfl, Row.nil _ _ _⟩) (by simp))
 clear hm HOW hc3
 go_wp2_with fail
 go_loopw [3, 16] (fun v jv wr => ∃ i : Nat, i ≤ OW.length ∧ jv = .int .i64 (i : Nat) ∧ Hid (∃ b d, v = .slice b ((OW.take i).flatMap (edgeF S.locks)).length d ∧ Mem w [] wr [RowA 89 2 b ((OW.take i).flatMap (edgeF S.locks)).length d (egFlat ((OW.take i).flatMap (edgeF S.locks))), RowI ao co OW])) (fun _ jv _ => OW.length - (intOf jv).toNat)
 case atStart => exact ⟨0, Nat.zero_le _, rfl, Lib.hid ⟨none, 0, by simp, by simpa using M1.out⟩⟩
 case round =>
  obtain ⟨w2, rfl⟩ : ∃ w2, w2 = wr := ⟨_, rfl⟩
  obtain ⟨i, hi, rfl, hS⟩ := hrel
  clear M1
  obtain ⟨b, d, rfl, hm⟩ := hS.out
  clear hS
  by_cases hlt : i < OW.length
  ·obtain ⟨gk, rfl, hck⟩ := (Mem.rowAt [RowA 89 2 b ((OW.take i).flatMap (edgeF S.locks)).length d (egFlat ((OW.take i).flatMap (edgeF S.locks)))] (r := []) hm).cellAt i (by simp [intsV]; omega)
   rw [show (intsV OW)[i]'(by simp [intsV]; omega) = .int .i64 OW[i] by simp [intsV]] at hck
   have hc3 := HA.out w2 hm.bel
   obtain ⟨DC, hDC⟩ := HT.out w2 hm.bel
   have HBK := Lib.hid (tab_blockers pl S.locks OW[i] w2 DC hDC HSM.out)
   have HU := Lib.hid (HUP.out i hlt)
   have HN := Lib.hid (HNX.out i hlt)
   have HEF : Hid (edgeF S.locks OW[i] = (riseI (blkL S.locks OW[i])).map fun x => (OW[i], x)) := Lib.hid rfl
   have HM := Lib.hid hm
   clear hDC hm
   generalize OW[i] = o at *
   generalize hP : (OW.take i).flatMap (edgeF S.locks) = P at *
   have HP := Lib.hid hP
   clear hP
   generalize edgeF S.locks o = EF at *
   generalize riseI (blkL S.locks o) = BL at *
   go_wp2_with fail
   refine HBK.out.mono ?_
   rintro e w3 ⟨ab, cb, rfl, hm⟩
   have M3 := Lib.hid (HM.out.join hm)
   clear hm HM HBK hc3 hck
   have hBL : P.length + BL.length ≤ 1000000 := by
    have h1 := HU.out
    have h2 := HEE.out
    rw [HED.out] at h2
    rw [HEF.out, List.length_map] at h1
    omega
   go_wp2_with fail
   go_loopw [3, 27] (fun v jv wr => ∃ j : Nat, j ≤ BL.length ∧ jv = .int .i64 (j : Nat) ∧ Hid (∃ b d, v = .slice b (P.length + j) d ∧ Mem w [] wr [RowA 89 2 b (P.length + j) d (egFlat (P ++ (BL.take j).map fun x => (o, x))), RowI ab cb BL, RowI (some ⟨gk, 0, none⟩) co OW])) (fun _ jv _ => BL.length - (intOf jv).toNat)
   case atStart => exact ⟨0, Nat.zero_le _, rfl, Lib.hid ⟨b, d, rfl, by
    have := M3.out.perm (List.Perm.swap _ _ _)
    simpa using this⟩⟩
   case round =>
    obtain ⟨w4, rfl⟩ : ∃ w4, w4 = wr := ⟨_, rfl⟩
    obtain ⟨j, hj, rfl, hS⟩ := hrel
    clear M3
    obtain ⟨b, d, rfl, hm⟩ := hS.out
    clear hS
    by_cases hltj : j < BL.length
    ·obtain ⟨gb, rfl, hcb⟩ := (Mem.rowAt [RowA 89 2 b (P.length + j) d (egFlat (P ++ (BL.take j).map fun x => (o, x)))] (r := [RowI (some ⟨gk, 0, none⟩) co OW]) hm).cellAt j (by simp [intsV]; omega)
     rw [show (intsV BL)[j]'(by simp [intsV]; omega) = .int .i64 BL[j] by simp [intsV]] at hcb
     have htk : P ++ (BL.take (j + 1)).map (fun x => (o, x)) = (P ++ (BL.take j).map fun x => (o, x)) ++ [(o, BL[j])] := by
      rw [List.take_succ_eq_append_getElem hltj, List.map_append, List.append_assoc]
      rfl
     have HTK := Lib.hid htk
     clear htk
     generalize BL[j] = x at *
     obtain ⟨b4, d4, w5, hrun, hn⟩ := Mem.app1 (P := Tryz.prog) (t := 81) (ty := 81) [] (r := [RowI (some ⟨gb, 0, none⟩) cb BL, RowI (some ⟨gk, 0, none⟩) co OW]) Tryz.underlying81 infoEg (by rfl) (by decide) hm [.int .i64 o, .int .i64 x] (by rfl) (by simp [Value.oneCell']) (by omega) (by decide)
     have HRUN := Lib.hid hrun
     have HF : Hid (Mem w [] w5 [RowA 89 2 b4 (P.length + (j + 1)) d4 (egFlat (P ++ (BL.take (j + 1)).map fun x => (o, x))), RowI (some ⟨gb, 0, none⟩) cb BL, RowI (some ⟨gk, 0, none⟩) co OW]) := Lib.hid (by
      rw [HTK.out, egFlat_append]
      exact hn)
     clear hrun hn hm HTK
     go_wp2_with ((at_builtin; refine wpList_appendR _ rfl (.tmp 31) (.tmp 35) 81 81 rfl (.slice b (P.length + j) d) (.slice (some ⟨w4.heap.size, 0, none⟩) 1 1) rfl rfl HRUN.out ?_))
     go_roundw
     case rel => exact ⟨j + 1, by omega, by go_num, Lib.hid ⟨b4, d4, rfl, HF.out⟩⟩
     case measure => simp [intOf]; omega
    ·obtain rfl : j = BL.length := by omega
     have HF : Hid (∃ b' d', Value.slice b (P.length + BL.length) d = .slice b' ((OW.take (i + 1)).flatMap (edgeF S.locks)).length d' ∧ Mem w [] w4 [RowA 89 2 b' ((OW.take (i + 1)).flatMap (edgeF S.locks)).length d' (egFlat ((OW.take (i + 1)).flatMap (edgeF S.locks))), RowI (some ⟨gk, 0, none⟩) co OW]) := Lib.hid (by
      have h1 := Mem.drop [RowA 89 2 b (P.length + BL.length) d (egFlat (P ++ (BL.take BL.length).map fun x => (o, x)))] (A := RowI ab cb BL) (r := [RowI (some ⟨gk, 0, none⟩) co OW]) hm
      rw [List.take_length] at h1
      rw [HN.out, HEF.out]
      refine ⟨b, d, by rw [List.length_append, List.length_map], ?_⟩
      rw [List.length_append, List.length_map]
      exact h1)
     clear hm
     go_wp2_with fail
     go_roundw
     case rel => exact ⟨i + 1, by omega, by go_num, HF⟩
     case measure => simp [intOf]; omega
  ·obtain rfl : i = OW.length := by omega
   have HF : Hid (EdgesP w ED (.returned (.slice b ((OW.take OW.length).flatMap (edgeF S.locks)).length d)) w2) := Lib.hid (by
    rw [List.take_length, ← HED.out] at hm ⊢
    exact ⟨b, d, rfl, Mem.drop [RowA 89 2 b ED.length d (egFlat ED)] (A := RowI ao co OW) (r := []) hm⟩)
   clear hm
   go_wp2_with fail
   go_ret
   exact HF.out
end Go.Proofs.YtmifgnibalbgjaaGreat
/- The laws' argument: commands; few. -/
namespace Go.Proofs.YtmifgnibalbgjaaGreat
open Go.RowKit set_option linter.unusedVariables false set_option linter.unusedSimpArgs false
theorem i64_bd2 {n : Int} (h : (Lit.int .i64 n).wf = true) : -9223372036854775808 ≤ n ∧ n ≤ 9223372036854775807 := by
 simp [Lit.wf, IntKind.min, IntKind.max, IntKind.signed, IntKind.bits] at h
 omega
theorem addr_spot {w : World} {a : Addr} {v : Value} (h : w.cell? a = some v) : a.spot = none := by
 unfold World.cell? at h
 split at h
 ·split at h
  ·exact absurd h (by simp)
  ·rename_i hs; simpa using hs
 ·exact absurd h (by simp)
theorem list_of {α : Type} [Inhabited α] (n : Nat) (p : Nat → α → Prop) (h : ∀ i, i < n → ∃ x, p i x) : ∃ l : List α, l.length = n ∧ ∀ i (hi : i < l.length), p i l[i] := by
 obtain ⟨f, hf⟩ := Go.Deep.choose_lt h
 exact ⟨(List.range n).map f, by simp, fun i hi => by simp at hi ⊢; exact hf i hi⟩
section
variable {H : Type} {enc : TypeId × Value → H} {W : World} {base : Nat} {spare : Nat → Bool} {held : Bool}
/-- A slice that came in: each element's cells, and what they read as. -/
theorem open_elems {t e : TypeId} {a : Option Addr} {n c K : Nat} {d : DataW H} {p : List MemPlace} (ht : Tryz.prog.underlying t = some (.slice e)) (hK : Tryz.prog.cellsOf e = K) (hK0 : 0 < K)
  (h : DataW.Trod enc Tryz.prog W base spare held t (.slice a n c) d p) :
  n ≤ maxLen ∧ ∀ j, j < n → ∃ b off, a = some ⟨b, off, none⟩ ∧ ∃ cs m y, cs.length = K ∧ (∀ r v, cs[r]? = some v → W.cell? ⟨b, off + j * K + r, none⟩ = some v) ∧ DataW.trod enc Tryz.prog W base spare held m e cs = some y := by
 obtain ⟨fuel, hf⟩ := h
 rcases Go.Deep.open_slice ht hf with ⟨hcs, _⟩ | ⟨x, len, cap, m, n', D, Pl, hcs, _, hl, hm, hmm, _, hx⟩
 ·simp [Value.cells] at hcs
  obtain ⟨rfl, rfl, rfl⟩ := hcs
  exact ⟨Nat.zero_le _, fun j hj => by omega⟩
 ·simp [Value.cells] at hcs
  obtain ⟨rfl, rfl, rfl⟩ := hcs
  refine ⟨by omega, fun j hj => ?_⟩
  obtain ⟨cs', h1, h2⟩ := hx j (by rw [hmm]; split <;> omega)
  rw [hK] at h1
  obtain ⟨_, hlen, hcell⟩ := World.cells?_some h1
  obtain ⟨cs0, k1, _⟩ := hx 0 (by rw [hmm]; split <;> omega)
  rw [hK] at k1
  obtain ⟨_, hlen0, hcell0⟩ := World.cells?_some k1
  have h0 := hcell0 0 (by omega)
  rw [List.getElem?_eq_getElem (by omega)] at h0
  have hs := addr_spot h0
  obtain ⟨b, off, sp⟩ := x
  have hs' : sp = none := by simpa [Addr.add] using hs
  subst hs'
  refine ⟨b, off, rfl, cs', n', (D j, Pl j), hlen, fun r v hr => ?_, h2⟩
  have hr' : r < cs'.length := (List.getElem?_eq_some_iff.1 hr).1
  have := hcell r (by omega)
  rw [Addr.add_lit, Addr.add_lit] at this
  rw [this, hr]
end

/-- The slice at a holds these. -/
def CmsAt (W : World) (a : Option Addr) (n : Nat) (l : List Cm) : Prop := n = l.length ∧ ∀ j (h : j < l.length), ∃ b off, a = some ⟨b, off, none⟩ ∧ (W.cell? ⟨b, off + j * 9, none⟩ = some (.int .i64 l[j].kind) ∧ W.cell? ⟨b, off + j * 9 + 1, none⟩ = some (.int .i64 l[j].tx) ∧ W.cell? ⟨b, off + j * 9 + 2, none⟩ = some (.int .i64 l[j].att) ∧ W.cell? ⟨b, off + j * 9 + 3, none⟩ = some (.int .i64 l[j].stamp) ∧ W.cell? ⟨b, off + j * 9 + 4, none⟩ = some (.int .i64 l[j].op) ∧ W.cell? ⟨b, off + j * 9 + 5, none⟩ = some (.string l[j].key) ∧ W.cell? ⟨b, off + j * 9 + 6, none⟩ = some (.string l[j].value) ∧ W.cell? ⟨b, off + j * 9 + 7, none⟩ = some (.int .i64 l[j].mode) ∧ W.cell? ⟨b, off + j * 9 + 8, none⟩ = some (.bool l[j].yes)) ∧ -9223372036854775808 ≤ l[j].kind ∧ l[j].kind ≤ 9223372036854775807 ∧ -9223372036854775808 ≤ l[j].tx ∧ l[j].tx ≤ 9223372036854775807 ∧ -9223372036854775808 ≤ l[j].att ∧ l[j].att ≤ 9223372036854775807 ∧ -9223372036854775808 ≤ l[j].stamp ∧ l[j].stamp ≤ 9223372036854775807 ∧ -9223372036854775808 ≤ l[j].op ∧ l[j].op ≤ 9223372036854775807 ∧ l[j].key.size ≤ maxLen ∧ l[j].value.size ≤ maxLen ∧ -9223372036854775808 ≤ l[j].mode ∧ l[j].mode ≤ 9223372036854775807
theorem CmsAt.below {w w' : World} {a : Option Addr} {n : Nat} {l : List Cm} (h : CmsAt w a n l) (b : Below w.heap.size w w') : CmsAt w' a n l :=
 have hk := fun {p : Addr} {v : Value} (hp : w.cell? p = some v) => (b.cell (World.block_lt_of_cell? w p hp)).trans hp
 ⟨h.1, fun j hj => let ⟨g, off, e, ⟨h0, h1, h2, h3, h4, h5, h6, h7, h8⟩, hr⟩ := h.2 j hj; ⟨g, off, e, ⟨hk h0, hk h1, hk h2, hk h3, hk h4, hk h5, hk h6, hk h7, hk h8⟩, hr⟩⟩
section
variable {H : Type} {enc : TypeId × Value → H} {W : World} {base : Nat} {spare : Nat → Bool} {held : Bool}
set_option maxRecDepth 100000 in
theorem open_cms {t e : TypeId} {a : Option Addr} {n c : Nat} {d : DataW H} {p : List MemPlace} {f0 f1 f2 f3 f4 f5 f6 f7 f8 : Field} (ht : Tryz.prog.underlying t = some (.slice e)) (he : Tryz.prog.underlying e = some (.struct #[f0, f1, f2, f3, f4, f5, f6, f7, f8])) (hK : Tryz.prog.cellsOf e = 9)
  (o0 : f0.offset = 0) (o1 : f1.offset = 1) (o2 : f2.offset = 2) (o3 : f3.offset = 3) (o4 : f4.offset = 4) (o5 : f5.offset = 5) (o6 : f6.offset = 6) (o7 : f7.offset = 7) (o8 : f8.offset = 8)
  (c0 : Tryz.prog.cellsOf f0.type = 1) (c1 : Tryz.prog.cellsOf f1.type = 1) (c2 : Tryz.prog.cellsOf f2.type = 1) (c3 : Tryz.prog.cellsOf f3.type = 1) (c4 : Tryz.prog.cellsOf f4.type = 1) (c5 : Tryz.prog.cellsOf f5.type = 1) (c6 : Tryz.prog.cellsOf f6.type = 1) (c7 : Tryz.prog.cellsOf f7.type = 1) (c8 : Tryz.prog.cellsOf f8.type = 1)
  (u0 : Tryz.prog.underlying f0.type = some (.int .i64)) (u1 : Tryz.prog.underlying f1.type = some (.int .i64)) (u2 : Tryz.prog.underlying f2.type = some (.int .i64)) (u3 : Tryz.prog.underlying f3.type = some (.int .i64)) (u4 : Tryz.prog.underlying f4.type = some (.int .i64)) (u5 : Tryz.prog.underlying f5.type = some (.string)) (u6 : Tryz.prog.underlying f6.type = some (.string)) (u7 : Tryz.prog.underlying f7.type = some (.int .i64)) (u8 : Tryz.prog.underlying f8.type = some (.bool))
  (h : DataW.Trod enc Tryz.prog W base spare held t (.slice a n c) d p) : n ≤ maxLen ∧ ∃ l, CmsAt W a n l := by
 obtain ⟨hn, hj⟩ := open_elems ht hK (by decide) h
 haveI : Inhabited Cm := ⟨⟨0, 0, 0, 0, 0, ByteArray.empty, ByteArray.empty, 0, false⟩⟩
 obtain ⟨l, hl, hp⟩ := list_of n (fun j (x : Cm) => ∃ b off, a = some ⟨b, off, none⟩ ∧ (W.cell? ⟨b, off + j * 9, none⟩ = some (.int .i64 x.kind) ∧ W.cell? ⟨b, off + j * 9 + 1, none⟩ = some (.int .i64 x.tx) ∧ W.cell? ⟨b, off + j * 9 + 2, none⟩ = some (.int .i64 x.att) ∧ W.cell? ⟨b, off + j * 9 + 3, none⟩ = some (.int .i64 x.stamp) ∧ W.cell? ⟨b, off + j * 9 + 4, none⟩ = some (.int .i64 x.op) ∧ W.cell? ⟨b, off + j * 9 + 5, none⟩ = some (.string x.key) ∧ W.cell? ⟨b, off + j * 9 + 6, none⟩ = some (.string x.value) ∧ W.cell? ⟨b, off + j * 9 + 7, none⟩ = some (.int .i64 x.mode) ∧ W.cell? ⟨b, off + j * 9 + 8, none⟩ = some (.bool x.yes)) ∧ -9223372036854775808 ≤ x.kind ∧ x.kind ≤ 9223372036854775807 ∧ -9223372036854775808 ≤ x.tx ∧ x.tx ≤ 9223372036854775807 ∧ -9223372036854775808 ≤ x.att ∧ x.att ≤ 9223372036854775807 ∧ -9223372036854775808 ≤ x.stamp ∧ x.stamp ≤ 9223372036854775807 ∧ -9223372036854775808 ≤ x.op ∧ x.op ≤ 9223372036854775807 ∧ x.key.size ≤ maxLen ∧ x.value.size ≤ maxLen ∧ -9223372036854775808 ≤ x.mode ∧ x.mode ≤ 9223372036854775807) fun j hjn => by
  obtain ⟨b, off, ha, cs, m, y, hlen, hc, hy⟩ := hj j hjn
  obtain ⟨xs, k, _, _, _, hxl, hf⟩ := DataW.trod_struct he hy
  match cs, hlen with
  | [v0, v1, v2, v3, v4, v5, v6, v7, v8], _ =>
   match xs, hxl with
   | [y0, y1, y2, y3, y4, y5, y6, y7, y8], _ =>
    have g0 := hf 0 f0 rfl
    have g1 := hf 1 f1 rfl
    have g2 := hf 2 f2 rfl
    have g3 := hf 3 f3 rfl
    have g4 := hf 4 f4 rfl
    have g5 := hf 5 f5 rfl
    have g6 := hf 6 f6 rfl
    have g7 := hf 7 f7 rfl
    have g8 := hf 8 f8 rfl
    simp [o0, o1, o2, o3, o4, o5, o6, o7, o8, c0, c1, c2, c3, c4, c5, c6, c7, c8] at g0 g1 g2 g3 g4 g5 g6 g7 g8
    obtain ⟨x0, e0, _, w0⟩ := DataW.trod_int u0 g0
    obtain ⟨x1, e1, _, w1⟩ := DataW.trod_int u1 g1
    obtain ⟨x2, e2, _, w2⟩ := DataW.trod_int u2 g2
    obtain ⟨x3, e3, _, w3⟩ := DataW.trod_int u3 g3
    obtain ⟨x4, e4, _, w4⟩ := DataW.trod_int u4 g4
    obtain ⟨x5, e5, _, w5⟩ := DataW.trod_string u5 g5
    obtain ⟨x6, e6, _, w6⟩ := DataW.trod_string u6 g6
    obtain ⟨x7, e7, _, w7⟩ := DataW.trod_int u7 g7
    obtain ⟨x8, e8, _⟩ := DataW.trod_bool u8 g8
    simp only [List.cons.injEq, and_true] at e0 e1 e2 e3 e4 e5 e6 e7 e8
    subst e0 e1 e2 e3 e4 e5 e6 e7 e8
    exact ⟨⟨x0, x1, x2, x3, x4, x5, x6, x7, x8⟩, b, off, ha, ⟨by simpa using hc 0 _ rfl, hc 1 _ rfl, hc 2 _ rfl, hc 3 _ rfl, hc 4 _ rfl, hc 5 _ rfl, hc 6 _ rfl, hc 7 _ rfl, hc 8 _ rfl⟩, (i64_bd2 w0).1, (i64_bd2 w0).2, (i64_bd2 w1).1, (i64_bd2 w1).2, (i64_bd2 w2).1, (i64_bd2 w2).2, (i64_bd2 w3).1, (i64_bd2 w3).2, (i64_bd2 w4).1, (i64_bd2 w4).2, w5, w6, (i64_bd2 w7).1, (i64_bd2 w7).2⟩
 exact ⟨hn, l, hl.symm, hp⟩
end

theorem CmsAt.at {w : World} {a : Option Addr} {n : Nat} {l : List Cm} (h : CmsAt w a n l) {j : Nat} (hj : j < l.length) : ∃ b off, a = some ⟨b, off, none⟩ ∧ (w.cell? ⟨b, off + j * 9, none⟩ = some (.int .i64 l[j].kind) ∧ w.cell? ⟨b, off + j * 9 + 1, none⟩ = some (.int .i64 l[j].tx) ∧ w.cell? ⟨b, off + j * 9 + 2, none⟩ = some (.int .i64 l[j].att) ∧ w.cell? ⟨b, off + j * 9 + 3, none⟩ = some (.int .i64 l[j].stamp) ∧ w.cell? ⟨b, off + j * 9 + 4, none⟩ = some (.int .i64 l[j].op) ∧ w.cell? ⟨b, off + j * 9 + 5, none⟩ = some (.string l[j].key) ∧ w.cell? ⟨b, off + j * 9 + 6, none⟩ = some (.string l[j].value) ∧ w.cell? ⟨b, off + j * 9 + 7, none⟩ = some (.int .i64 l[j].mode) ∧ w.cell? ⟨b, off + j * 9 + 8, none⟩ = some (.bool l[j].yes)) ∧ i64 l[j].tx ∧ l[j].key.size ≤ maxLen ∧ l[j].value.size ≤ maxLen := by
 obtain ⟨b, off, e, hc, h0, h1, h2, h3, h4, h5, h6, h7, h8, h9, h10, h11, h12, h13⟩ := h.2 j hj
 exact ⟨b, off, e, hc, ⟨h2, h3⟩, h10, h11⟩
def shortC (c : Cm) : Bool := decide (c.key.size ≤ 100) && decide (c.value.size ≤ 100)
def fewC (l : List Cm) : Bool := l.all shortC && decide (l.length ≤ 80)
theorem fewC_len {l : List Cm} (h : fewC l = true) : l.length ≤ 80 := by
 unfold fewC at h
 simp at h
 exact h.2
set_option maxRecDepth 100000 in
set_option maxHeartbeats 1600000 in
theorem few_any (a : Option Addr) (n c : Nat) (l : List Cm) (w : World) (hn : n ≤ maxLen) (h : CmsAt w a n l) :
  Calls Tryz.prog 10 #[.slice a n c] w (fun e w' => e = .returned (.bool (fewC l)) ∧ Below w.heap.size w w') := by
 have HA := Lib.hid h
 unfold maxLen at hn
 clear h
 have HN := Lib.hid HA.out.1
 have HT : Hid ((∀ t ∈ l, shortC t = true) → fewC l = decide ((n : Int) ≤ 80)) := Lib.hid fun h => by
  unfold fewC
  rw [List.all_eq_true.2 h, Bool.true_and, HN.out]
  simp; omega
 have HF : Hid (∀ t ∈ l, shortC t = false → fewC l = false) := Lib.hid fun t ht h => by
  unfold fewC
  rw [Bool.and_eq_false_iff]
  left
  rw [List.all_eq_false]
  exact ⟨t, ht, by simp [h]⟩
 generalize fewC l = fl at *
 go_enter Tryz.func10, Tryz.ntmps10
 go_wp2_with fail
 go_loopw [7] (fun j wr => ∃ k : Nat, k ≤ n ∧ j = .int .i64 k ∧ Hid (Below w.heap.size w wr ∧ ∀ i (hi : i < l.length), i < k → shortC l[i] = true)) (fun j _ => n - (intOf j).toNat)
 case atStart => exact ⟨0, Nat.zero_le _, rfl, Lib.hid ⟨Below.refl _ _, fun i hi h => by omega⟩⟩
 case round =>
  obtain ⟨k, hk, rfl, hS⟩ := hrel
  obtain ⟨hb, hall⟩ := hS.out
  have HB := Lib.hid hb
  have HALL := Lib.hid hall
  clear hS hall
  by_cases hlt : k < n
  ·have hk2 : k < l.length := by rw [← HN.out]; exact hlt
   obtain ⟨g, off, rfl, ⟨hx0, hx1, hx2, hx3, hx4, hx5, hx6, hx7, hx8⟩, -, hz1, hz2⟩ := (HA.out.below hb).at hk2
   have hm := List.getElem_mem hk2
   have HX := Lib.hid (HF.out _ hm)
   have HNX : Hid (shortC l[k] = true → ∀ i (hi : i < l.length), i < k + 1 → shortC l[i] = true) := Lib.hid fun h i hi hik => by
    by_cases e : i = k
    ·subst e; exact h
    ·exact HALL.out i hi (by omega)
   clear hm HALL
   generalize l[k] = x at *
   obtain ⟨xk, xt, xa, xs, xo, xy, xv, xm, xb⟩ := x
   simp only [shortC] at hx0 hx1 hx2 hx3 hx4 hx5 hx6 hx7 hx8 hz1 hz2 HX HNX
   unfold maxLen at hz1 hz2
   clear hb
   generalize hsz : xy.size = z at *
   have HZ := Lib.hid hsz
   generalize hsv : xv.size = y at *
   have HV := Lib.hid hsv
   have HB2 := Lib.hid (HB.out.trans ((bel_new wr (.cells #[.int .i64 xk, .int .i64 xt, .int .i64 xa, .int .i64 xs, .int .i64 xo, .string xy, .string xv, .int .i64 xm, .bool xb] 28)).mono HB.out.size))
   by_cases h100 : (100 : Int) < (z : Int)
   ·have h1 := HX.out (by simp; omega)
    subst h1
    have hd : decide ((100 : Int) < (z : Int)) = true := decide_eq_true h100
    clear HX HNX
    go_wp2_with fail
    go_ret
    exact ⟨rfl, HB2.out⟩
   ·have hd : decide ((100 : Int) < (z : Int)) = false := decide_eq_false h100
    by_cases h101 : (100 : Int) < (y : Int)
    ·have h1 := HX.out (by simp; omega)
     subst h1
     have hd2 : decide ((100 : Int) < (y : Int)) = true := decide_eq_true h101
     clear HX HNX
     go_wp2_with fail
     go_ret
     exact ⟨rfl, HB2.out⟩
    ·have hd2 : decide ((100 : Int) < (y : Int)) = false := decide_eq_false h101
     have HN2 := Lib.hid (HNX.out (by simp; omega))
     clear HX HNX
     go_wp2_with fail
     go_roundw
     case rel => exact ⟨k + 1, by omega, by go_num, Lib.hid ⟨HB2.out, HN2.out⟩⟩
     case measure => simp [intOf]; omega
  ·obtain rfl : k = n := by omega
   have he := HT.out fun t ht => by
    obtain ⟨i, hi, rfl⟩ := List.getElem_of_mem ht
    exact HALL.out i hi (by rw [HN.out]; exact hi)
   subst he
   clear HT HF hb
   go_wp2_with fail
   go_ret
   exact ⟨rfl, HB.out⟩
end Go.Proofs.YtmifgnibalbgjaaGreat
/- No shard of a whole whose clock is wrong. -/
namespace Go.Proofs.YtmifgnibalbgjaaGreat
open Go.RowKit set_option linter.unusedVariables false set_option linter.unusedSimpArgs false
def numB (n most : Int) : Bool := decide (0 ≤ n) && decide (n ≤ most)
set_option maxRecDepth 100000 in
set_option maxHeartbeats 800000 in
theorem num_any (n most : Int) (w : World) : Calls Tryz.prog 56 #[.int .i64 n, .int .i64 most] w fun e w' => e = .returned (.bool (numB n most)) ∧ w = w' := by
 unfold numB
 cases h1 : decide (0 ≤ n) with
 | false =>
  go_enter Tryz.func56, Tryz.ntmps56
  go_wp2_with fail
  go_ret
  exact ⟨rfl, rfl⟩
 | true =>
  go_enter Tryz.func56, Tryz.ntmps56
  go_wp2_with fail
  go_ret
  exact ⟨rfl, rfl⟩
set_option maxRecDepth 100000 in
set_option maxHeartbeats 4000000 in
theorem from_bad (ck mo : Int) (qa la ra va da : Option Addr) (qn qc ln lc rn rc vn vc dn dc : Nat) (w : World) (hck : numB ck 1099511627776 = false) :
  Calls Tryz.prog 21 #[.agg #[.int .i64 ck, .int .i64 mo, .slice qa qn qc, .slice la ln lc, .slice ra rn rc, .slice va vn vc, .slice da dn dc]] w fun e w' => e = .returned (.tuple #[.pointer none, .int .i64 2]) ∧ Below w.heap.size w w' := by
 have HN := Lib.hid fun W => num_any ck 1099511627776 W
 rw [hck] at HN
 clear hck
 have M0 := Lib.hid ((Mem.nil w).block #[.int .i64 ck, .int .i64 mo, .slice qa qn qc, .slice la ln lc, .slice ra rn rc, .slice va vn vc, .slice da dn dc] 55)
 go_enter Tryz.func21, Tryz.ntmps21
 go_wp2_with fail
 obtain ⟨w1, hw1⟩ : ∃ w1, w1 = w.alloc (.cells #[.int .i64 ck, .int .i64 mo, .slice qa qn qc, .slice la ln lc, .slice ra rn rc, .slice va vn vc, .slice da dn dc] 55) := ⟨_, rfl⟩
 rw [← hw1] at M0 ⊢
 clear hw1
 refine (sh_new w1).mono ?_
 rintro e w2 ⟨p, rfl, hm⟩
 have M2 : Mem w [] w2 (ShA p sh0 :: [BlockA w.heap.size #[.int .i64 ck, .int .i64 mo, .slice qa qn qc, .slice la ln lc, .slice ra rn rc, .slice va vn vc, .slice da dn dc] 55]) := M0.out.join hm
 obtain ⟨pc, pl, ps, bl, bd, E, e, M3⟩ := Mem.shOpen M2
 have M4 := Lib.hid M3
 clear hm M2 M0 M3 e
 go_wp2_with fail
 have m5 := M4.out.below (bel_drew w2)
 have hB := (Mem.get [] m5).choose_spec.2
 have hW := (cell_of_heap (i := 0) (v := .int .i64 ck) (Mem.blk m5 (g := w.heap.size) (cur := #[.int .i64 ck, .int .i64 mo, .slice qa qn qc, .slice la ln lc, .slice ra rn rc, .slice va vn vc, .slice da dn dc]) (T := 55) (by simp)) rfl).1
 have hW1 := (cell_of_heap (i := 1) (v := .int .i64 mo) (Mem.blk m5 (g := w.heap.size) (cur := #[.int .i64 ck, .int .i64 mo, .slice qa qn qc, .slice la ln lc, .slice ra rn rc, .slice va vn vc, .slice da dn dc]) (T := 55) (by simp)) rfl).1
 have hS0 : w2.drew.cell? ⟨w.heap.size, 0, none⟩ = some (.int .i64 ck) ∧ w2.drew.cell? ⟨w.heap.size, 1, none⟩ = some (.int .i64 mo) := ⟨hW, hW1⟩
 obtain ⟨k0, j0⟩ := cell_of_heap (i := 0) (v := .int .i64 0) hB rfl
 obtain ⟨k2, j2⟩ := cell_of_heap (i := 1) (v := .int .i64 0) hB rfl
 have m6 := Mem.setAt [] (i := 0) m5 (.int .i64 ck)
 have hB6 := (Mem.get [] m6).choose_spec.2
 obtain ⟨k1, j1⟩ := cell_of_heap (i := 1) (v := .int .i64 0) hB6 rfl
 have hS1 : (w2.drew.setCell ⟨p, 0, none⟩ (.int .i64 ck)).cell? ⟨w.heap.size, 0, none⟩ = some (.int .i64 ck) ∧ (w2.drew.setCell ⟨p, 0, none⟩ (.int .i64 ck)).cell? ⟨w.heap.size, 1, none⟩ = some (.int .i64 mo) := ⟨(cell_of_heap (i := 0) (v := .int .i64 ck) (Mem.blk m6 (g := w.heap.size) (cur := #[.int .i64 ck, .int .i64 mo, .slice qa qn qc, .slice la ln lc, .slice ra rn rc, .slice va vn vc, .slice da dn dc]) (T := 55) (by simp)) rfl).1, (cell_of_heap (i := 1) (v := .int .i64 mo) (Mem.blk m6 (g := w.heap.size) (cur := #[.int .i64 ck, .int .i64 mo, .slice qa qn qc, .slice la ln lc, .slice ra rn rc, .slice va vn vc, .slice da dn dc]) (T := 55) (by simp)) rfl).1⟩
 have m7 := Mem.setAt [] (i := 1) m6 (.int .i64 mo)
 have M7 := Lib.hid m7
 clear m5 hB hW hW1 m6 hB6 m7 M4
 refine wp_region_till (fun W => W.cell? ⟨w.heap.size, 0, none⟩ = some (.int .i64 ck) ∧ W.cell? ⟨w.heap.size, 1, none⟩ = some (.int .i64 mo)) 11 (by kernel_rfl) (hS0) (fun hM hS => ?_)
 generalize w2.drew = w5 at *
 refine till_op (v := ?_) 0 [] hM rfl (by kernel_rfl) (by kernel_rfl) (by kernel_rfl) (by kernel_rfl) rfl (fun _ _ _ h => h) (Or.inl ⟨by rfl, ?_⟩) hS (fun hM => ?_)
 rotate_left
 ·intro W hSw
  (try dsimp only at hSw)
  go_simp
  try with_reducible rfl
 try simp only [Act.put, List.setIfInBounds_toArray, List.set_cons_zero, List.set_cons_succ]
 refine till_op (v := ?_) 1 [] hM rfl (by kernel_rfl) (by kernel_rfl) (by kernel_rfl) (by kernel_rfl) rfl (fun _ _ _ h => h) (Or.inl ⟨by rfl, ?_⟩) hS (fun hM => ?_)
 rotate_left
 ·intro W hSw
  (try dsimp only at hSw)
  go_simp
  try with_reducible rfl
 try simp only [Act.put, List.setIfInBounds_toArray, List.set_cons_zero, List.set_cons_succ]
 refine till_op (v := ?_) 2 [] hM rfl (by kernel_rfl) (by kernel_rfl) (by kernel_rfl) (by kernel_rfl) rfl (fun _ _ _ h => h) (Or.inl ⟨by rfl, ?_⟩) hS (fun hM => ?_)
 rotate_left
 ·intro W hSw
  (try dsimp only at hSw)
  go_simp
  try with_reducible rfl
 try simp only [Act.put, List.setIfInBounds_toArray, List.set_cons_zero, List.set_cons_succ]
 refine till_op (v := ?_) 3 [] hM rfl (by kernel_rfl) (by kernel_rfl) (by kernel_rfl) (by kernel_rfl) rfl (fun _ _ _ h => h) (Or.inl ⟨by rfl, ?_⟩) hS (fun hM => ?_)
 rotate_left
 ·intro W hSw
  (try dsimp only at hSw)
  go_simp
  try with_reducible rfl
 try simp only [Act.put, List.setIfInBounds_toArray, List.set_cons_zero, List.set_cons_succ]
 refine till_op (v := ?_) 4 [] hM rfl (by kernel_rfl) (by kernel_rfl) (by kernel_rfl) (by kernel_rfl) rfl (fun _ _ _ h => h) (Or.inl ⟨by rfl, ?_⟩) hS (fun hM => ?_)
 rotate_left
 ·intro W hSw
  (try dsimp only at hSw)
  go_simp
  try with_reducible rfl
 try simp only [Act.put, List.setIfInBounds_toArray, List.set_cons_zero, List.set_cons_succ]
 refine till_op (v := ?_) 5 [] hM rfl (by kernel_rfl) (by kernel_rfl) (by kernel_rfl) (by kernel_rfl) rfl (fun _ _ _ h => h) (Or.inl ⟨by rfl, ?_⟩) hS (fun hM => ?_)
 rotate_left
 ·intro W hSw
  (try dsimp only at hSw)
  go_simp
  try with_reducible rfl
 try simp only [Act.put, List.setIfInBounds_toArray, List.set_cons_zero, List.set_cons_succ]
 refine till_op (v := ?_) 6 [] hM rfl (by kernel_rfl) (by kernel_rfl) (by kernel_rfl) (by kernel_rfl) rfl (fun _ _ _ h => h) (Or.inl ⟨by rfl, ?_⟩) hS (fun hM => ?_)
 rotate_left
 ·intro W hSw
  (try dsimp only at hSw)
  go_simp
  try with_reducible rfl
 try simp only [Act.put, List.setIfInBounds_toArray, List.set_cons_zero, List.set_cons_succ]
 refine till_op (v := ?_) 7 [] hM rfl (by kernel_rfl) (by kernel_rfl) (by kernel_rfl) (by kernel_rfl) rfl (fun _ _ _ h => h) (Or.inl ⟨by rfl, ?_⟩) hS (fun hM => ?_)
 rotate_left
 ·intro W hSw
  (try dsimp only at hSw)
  go_simp
  try with_reducible rfl
 try simp only [Act.put, List.setIfInBounds_toArray, List.set_cons_zero, List.set_cons_succ]
 refine till_one 8 hM rfl (by kernel_rfl) (fun K hK => ?_)
 go_simp
 refine hK _ _ (fun _ => hS1) (fun hM => ?_)
 have hS := hS1
 clear hK K
 try simp only [Act.put, List.setIfInBounds_toArray, List.set_cons_zero, List.set_cons_succ]
 refine till_op (v := ?_) 9 [10] hM rfl (by kernel_rfl) (by kernel_rfl) (by kernel_rfl) (by kernel_rfl) rfl (fun _ _ _ h => h) (Or.inl ⟨by rfl, ?_⟩) hS (fun hM => ?_)
 rotate_left
 ·intro W hSw
  (try dsimp only at hSw)
  go_simp
  try with_reducible rfl
 try simp only [Act.put, List.setIfInBounds_toArray, List.set_cons_zero, List.set_cons_succ]
 refine till_op (v := ?_) 10 [] hM rfl (by kernel_rfl) (by kernel_rfl) (by kernel_rfl) (by kernel_rfl) rfl (fun _ _ _ h => h) (Or.inl ⟨by rfl, ?_⟩) hS (fun hM => ?_)
 rotate_left
 ·intro W hSw
  (try dsimp only at hSw)
  go_simp
  try with_reducible rfl
 try simp only [Act.put, List.setIfInBounds_toArray, List.set_cons_zero, List.set_cons_succ]
 refine till_one 11 hM rfl (by kernel_rfl) (fun K hK => ?_)
 go_simp
 refine hK _ _ (fun h => absurd rfl h) (fun hM => ?_)
 clear hK K
 try simp only [Act.put, List.setIfInBounds_toArray, List.set_cons_zero, List.set_cons_succ]
 refine till_done (by kernel_rfl) ?_ _
 have m8 := M7.out
 have hc0 := (cell_of_heap (i := 0) (v := .int .i64 ck) (Mem.blk m8 (g := w.heap.size) (cur := #[.int .i64 ck, .int .i64 mo, .slice qa qn qc, .slice la ln lc, .slice ra rn rc, .slice va vn vc, .slice da dn dc]) (T := 55) (by simp)) rfl).1
 have HB := Lib.hid (Mem.bel m8)
 generalize (w5.setCell ⟨p, 0, none⟩ (.int .i64 ck)).setCell ⟨p, 1, none⟩ (.int .i64 mo) = w3 at *
 clear m8 M7 k0 j0 k1 j1 k2 j2 hS0 hS1
 go_wp2_with fail
 refine (HN.out w3).mono ?_
 rintro e w4 ⟨rfl, rfl⟩
 go_wp2_with fail
 go_ret2
 exact ⟨rfl, HB.out⟩
end Go.Proofs.YtmifgnibalbgjaaGreat
