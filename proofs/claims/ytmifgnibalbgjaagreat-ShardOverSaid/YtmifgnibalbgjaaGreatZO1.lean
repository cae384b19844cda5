/- A new shard; what it tells. -/
import Derived.Test.YtmifgnibalbgjaaGreatZM10
import Derived.Test.YtmifgnibalbgjaaGreatZLX
import Derived.Test.YtmifgnibalbgjaaGreatZLAH
import Derived.Carry
namespace Go.Proofs.YtmifgnibalbgjaaGreat
open Go.RowKit set_option linter.unusedVariables false set_option linter.unusedSimpArgs false
/-- nothing yet. -/
def sh0 : Sh := ⟨0, 0, [], 0, [], [], [], []⟩
set_option maxRecDepth 100000 in
set_option maxHeartbeats 800000 in
theorem cells_new (w : World) : Calls Tryz.prog 31 #[] w fun e w' => ∃ p, e = .returned (.pointer (some ⟨p, 0, none⟩)) ∧ Mem w [] w' [CellsA p [] 0] := by
 have h0 := (Mem.nil w).new (bel_new w (.map #[] 0)) (As := [KRowsA (strK Tryz.underlying9) Ve.val Ve.row w.heap.size []]) (D' := [w.heap.size]) (all_one (all_one (KMapA.made (strK Tryz.underlying9) w))) (by simp)
 have h1 := h0.block #[.map (some w.heap.size), .int .i64 0, .int .i64 0] 142
 rw [show (w.alloc (.map #[] 0)).heap.size = w.heap.size + 1 by simp] at h1
 have HF := Lib.hid (Mem.cellsShut (C := []) rfl h1)
 clear h0 h1
 have hmm := @run_makeMap Tryz.prog
 go_enter Tryz.func31, Tryz.ntmps31
 go_wp2_with fail
 go_ret
 exact ⟨_, rfl, HF.out⟩
set_option maxRecDepth 100000 in
set_option maxHeartbeats 800000 in
theorem st_new (w : World) : Calls Tryz.prog 33 #[] w fun e w' => ∃ p, e = .returned (.pointer (some ⟨p, 0, none⟩)) ∧ Mem w [] w' [StA p []] := by
 have h1 := (Mem.nil w).block #[.slice none 0 0] 146
 have HF : Hid (Mem w [] (w.alloc (.cells #[.slice none 0 0] 146)) [StA w.heap.size []]) := Lib.hid (by
  obtain ⟨D, hA, hD⟩ := h1.out
  obtain ⟨D1, D2, rfl, hd, hB, -⟩ := hA
  refine ⟨D1, all_one ⟨none, 0, D1, [], by simp, by simp, hB, [], [], rfl, by simp, ⟨rfl, Row.nil _ _ _⟩, rfl⟩, ?_⟩
  exact ⟨hD.touch, fun x hx => hD.fresh x (List.mem_append_left _ hx)⟩)
 clear h1
 go_enter Tryz.func33, Tryz.ntmps33
 go_wp2_with fail
 go_ret
 exact ⟨_, rfl, HF.out⟩
set_option maxRecDepth 100000 in
set_option maxHeartbeats 2000000 in
theorem sh_new (w : World) : Calls Tryz.prog 11 #[] w fun e w' => ∃ p, e = .returned (.pointer (some ⟨p, 0, none⟩)) ∧ Mem w [] w' [ShA p sh0] := by
 have hmm := @run_makeMap Tryz.prog
 have HC := Lib.hid (cells_new w)
 have HT := Lib.hid tab_new
 have HS := Lib.hid st_new
 go_enter Tryz.func11, Tryz.ntmps11
 go_wp2_with fail
 refine HC.out.mono ?_
 rintro e w1 ⟨pc, rfl, m1⟩
 have M1 := Lib.hid m1
 clear m1 HC
 go_wp2_with fail
 refine (HT.out w1).mono ?_
 rintro e w2 ⟨pl, rfl, hA, hf, hb⟩
 have M2 := Lib.hid (M1.out.new hb hA hf)
 clear hA hf hb HT M1
 go_wp2_with fail
 refine (HS.out w2).mono ?_
 rintro e w3 ⟨ps, rfl, m3⟩
 have m4 := M2.out.join m3
 have m5 := m4.new (bel_new w3 (.map #[] 0)) (As := [KRowsA (intK Tryz.underlying3) Le.val Le.row w3.heap.size []]) (D' := [w3.heap.size]) (all_one (all_one (KMapA.made (intK Tryz.underlying3) w3))) (by simp)
 have m6 := m5.new (bel_new (w3.alloc (.map #[] 0)) (.map #[] 0)) (As := [KMapA (intK Tryz.underlying3) (w3.alloc (.map #[] 0)).heap.size []]) (D' := [(w3.alloc (.map #[] 0)).heap.size]) (all_one (KMapA.made (intK Tryz.underlying3) (w3.alloc (.map #[] 0)))) (by simp)
 have m7 := m6.block #[.int .i64 0, .int .i64 0, .pointer (some ⟨pc, 0, none⟩), .pointer (some ⟨pl, 0, none⟩), .pointer (some ⟨ps, 0, none⟩), .map (some w3.heap.size), .map (some (w3.alloc (.map #[] 0)).heap.size)] 99
 have e1 : (w3.alloc (.map #[] 0)).heap.size = w3.heap.size + 1 := by simp
 have e2 : ((w3.alloc (.map #[] 0)).alloc (.map #[] 0)).heap.size = w3.heap.size + 2 := by simp
 rw [e1, e2] at m7
 have m8 := Mem.perm m7 (l' := BlockA (w3.heap.size + 2) #[.int .i64 0, .int .i64 0, .pointer (some ⟨pc, 0, none⟩), .pointer (some ⟨pl, 0, none⟩), .pointer (some ⟨ps, 0, none⟩), .map (some w3.heap.size), .map (some (w3.heap.size + 1))] 99 :: CellsA pc [] 0 :: TabA pl [] :: StA ps [] :: KRowsA (intK Tryz.underlying3) Le.val Le.row w3.heap.size [] :: [KMapA (intK Tryz.underlying3) (w3.heap.size + 1) []]) (perm_ct fun x => by simp only [cnt_cons, cnt_append, cnt_nil]; omega)
 have HF : Hid (Mem w [] _ [ShA (w3.heap.size + 2) sh0]) := Lib.hid (Mem.shShut (E := []) (r := []) sh0 rfl m8)
 clear m3 m4 m5 m6 m7 m8 e1 e2 M2 HS
 go_wp2_with fail
 go_ret
 exact ⟨_, rfl, HF.out⟩
section
variable {g : Nat} {S : Sh} {w : World} {D : List Nat}
/-- a shard opened, whatever is asked for. -/
theorem ShA.at (h : ShA g S w D) : ∃ pc pl ps bl bd E, lvE E = S.lives ∧ ShAt g S 0 w pc pl ps bl bd E ∧ Mem w D w (shT g pc pl ps bl bd E S) := by
 obtain ⟨pc, pl, ps, bl, bd, E, e, M⟩ := Mem.shOpen (Mem.start h)
 exact ⟨pc, pl, ps, bl, bd, E, e, Mem.shAt M (by decide), M⟩
set_option maxRecDepth 100000 in
set_option maxHeartbeats 800000 in
theorem sh_moment (h : ShA g S w D) : Calls Tryz.prog 15 #[.pointer (some ⟨g, 0, none⟩)] w fun e w' => e = .returned (.int .i64 S.moment) ∧ w = w' := by
 obtain ⟨pc, pl, ps, bl, bd, E, e, hA, -⟩ := h.at
 have h1 := hA.c1
 clear hA h e
 go_enter Tryz.func15, Tryz.ntmps15
 go_wp2_with fail
 go_ret
 exact ⟨rfl, rfl⟩
set_option maxRecDepth 100000 in
set_option maxHeartbeats 800000 in
theorem none_clock (w : World) : Calls Tryz.prog 30 #[.pointer none] w fun e w' => e = .returned (.int .i64 0) ∧ w = w' := by
 go_enter Tryz.func30, Tryz.ntmps30
 go_wp2_with fail
 go_ret
 exact ⟨rfl, rfl⟩
set_option maxRecDepth 100000 in
set_option maxHeartbeats 800000 in
theorem sh_done (h : ShA g S w D) (tx : Int) (htx : i64 tx) : Calls Tryz.prog 18 #[.pointer (some ⟨g, 0, none⟩), .int .i64 tx] w fun e w' => e = .returned (.tuple #[.int .i64 ((kGet tx S.dones).getD 0), .bool (kGet tx S.dones).isSome]) ∧ w = w' := by
 obtain ⟨pc, pl, ps, bl, bd, E, e, hA, M⟩ := h.at
 have h1 := hA.c6
 have h2 := (Mem.shAt M htx).dones
 clear hA h e M
 generalize (kGet tx S.dones).getD 0 = v at *
 generalize (kGet tx S.dones).isSome = b at *
 go_enter Tryz.func18, Tryz.ntmps18
 go_wp2_with fail
 go_ret2
 exact ⟨rfl, rfl⟩
set_option maxRecDepth 100000 in
set_option maxHeartbeats 800000 in
theorem sh_value (h : ShA g S w D) (ok : COk 1000 S.cells) (k : ByteArray) (hk : k.size ≤ maxLen) : Calls Tryz.prog 16 #[.pointer (some ⟨g, 0, none⟩), .string k] w fun e w' => e = .returned (.tuple #[.string (valM (versM S.cells k) 1099511627776).1, .bool (valM (versM S.cells k) 1099511627776).2]) ∧ Below w.heap.size w w' := by
 obtain ⟨pc, pl, ps, bl, bd, E, e, hA, M⟩ := h.at
 have h1 := hA.c2
 obtain ⟨DC, hDC⟩ := Mem.get [shB g S pc pl ps bl bd] (A := CellsA pc S.cells S.clast) (r := TabA pl S.locks :: StA ps S.rows :: KRowsA (intK Tryz.underlying3) Le.val Le.row bl E :: [KMapA (intK Tryz.underlying3) bd (dnV S.dones)]) M
 have HC := Lib.hid (cells_get hDC ok k hk)
 clear hA h e M hDC
 generalize valM (versM S.cells k) 1099511627776 = v at *
 obtain ⟨v1, v2⟩ := v
 go_enter Tryz.func16, Tryz.ntmps16
 go_wp2_with fail
 refine HC.out.mono ?_
 rintro e w1 ⟨rfl, hb⟩
 have HB := Lib.hid hb
 clear hb
 go_wp2_with fail
 go_ret2
 exact ⟨rfl, HB.out⟩
end
end Go.Proofs.YtmifgnibalbgjaaGreat
