/- The fixed calls. -/
import Derived.Test.YtlmfpkfgjfdhgaaAE
namespace Go.Proofs.Ytlmfpkfgjfdhgaa
open Go.RowKit
abbrev S0 : SOk [] [] := SOk.nil
theorem s1 : SOk F1 [] := SOk.nil.join fj1
theorem s2 : SOk F2 [] := s1.join fj2
theorem s3 : SOk F3 [] := s2.join fj3
theorem s4 : SOk F3 FK := (s3.ask (by decide) (fa1 true)).1
theorem s5 : SOk FD FK := (s4.ask (by decide) fd3).1
theorem s6 : SOk FW2 FK := (s4.ask (by decide) fw2).1
theorem s7 : SOk FW2 FK3 := (s6.ask (by decide) fw3).1
theorem s8 : SOk FG FK3 := (s5.leave fdl).1
set_option maxRecDepth 100000 in
set_option maxHeartbeats 4000000 in
theorem fixed_any (w : World) : Calls Try.prog 7 #[] w fun e w' => e = .returned (.bool true) ∧ Below w.heap.size w w' := by
  have HN := Lib.hid tb_new
  have HAN := Lib.hid fun W => ask_nil 1 ky W
  have HMN := Lib.hid members_nil
  go_enter Try.func7, Try.ntmps7
  go_wp2_with fail
  refine (HN.out false w).mono ?_
  rintro e w1 ⟨pd, rfl, hA, hd, hb⟩
  have M1 := Lib.hid (show Mem w [] w1 [TbA pd false [] []] from (Mem.nil w).new hb hA hd)
  clear hA hd hb
  go_wp2_with fail
  refine (HN.out true w1).mono ?_
  rintro e w2 ⟨pw, rfl, hA, hd, hb⟩
  have M2 := Lib.hid (show Mem w [] w2 [TbA pw true [] [], TbA pd false [] []] from M1.out.new hb hA hd)
  have M3 := Lib.hid (M2.out.block #[.pointer (some ⟨pd, 0, none⟩), .pointer (some ⟨pw, 0, none⟩)] 25)
  clear hA hd hb M1 M2
  go_wp2_with fail
  generalize w2.heap.size = g at *
  go_loopw [31] (fun iv wr => (iv = .int .i64 0 ∧ Hid (Mem w [] wr [BlockA g #[.pointer (some ⟨pd, 0, none⟩), .pointer (some ⟨pw, 0, none⟩)] 25, TbA pw true [] [], TbA pd false [] []])) ∨ (iv = .int .i64 1 ∧ Hid (Mem w [] wr [BlockA g #[.pointer (some ⟨pd, 0, none⟩), .pointer (some ⟨pw, 0, none⟩)] 25, TbA pw true [] [], TbA pd false F3 FK])) ∨ (iv = .int .i64 2 ∧ Hid (Mem w [] wr [BlockA g #[.pointer (some ⟨pd, 0, none⟩), .pointer (some ⟨pw, 0, none⟩)] 25, TbA pw true F3 FK, TbA pd false F3 FK]))) (fun iv _ => (2 - intOf iv).toNat)
  case atStart => exact .inl ⟨rfl, M3⟩
  case round =>
    clear M3
    obtain ⟨rfl, HM⟩ | ⟨rfl, HM⟩ | ⟨rfl, HM⟩ := hrel
    · obtain ⟨hc, -⟩ := HM.out.block_cell (i := 0) rfl
      go_wp2_with fail
      refine (mem_join [BlockA g _ 25, TbA pw true [] []] HM.out S0 fj1).mono ?_
      rintro e w3 ⟨rfl, hm⟩
      have H1 := Lib.hid hm
      clear hm HM hc
      go_wp2_with fail
      refine (mem_join [BlockA g _ 25, TbA pw true [] []] H1.out s1 fj2).mono ?_
      rintro e w4 ⟨rfl, hm⟩
      have H2 := Lib.hid hm
      clear hm H1
      go_wp2_with fail
      refine (mem_join [BlockA g _ 25, TbA pw true [] []] H2.out s2 fj3).mono ?_
      rintro e w5 ⟨rfl, hm⟩
      have H3 := Lib.hid hm
      clear hm H2
      go_wp2_with fail
      refine (mem_ask [BlockA g _ 25, TbA pw true [] []] H3.out s3 (fa1 false)).mono ?_
      rintro e w6 ⟨rfl, hm⟩
      have H4 := Lib.hid hm
      clear hm H3
      go_wp2_with fail
      go_roundw
      case rel => exact .inr (.inl ⟨rfl, H4⟩)
      case measure => simp [intOf]
    · obtain ⟨hc, -⟩ := HM.out.block_cell (i := 1) rfl
      go_wp2_with fail
      refine (mem_join [BlockA g _ 25] HM.out S0 fj1).mono ?_
      rintro e w3 ⟨rfl, hm⟩
      have H1 := Lib.hid hm
      clear hm HM hc
      go_wp2_with fail
      refine (mem_join [BlockA g _ 25] H1.out s1 fj2).mono ?_
      rintro e w4 ⟨rfl, hm⟩
      have H2 := Lib.hid hm
      clear hm H1
      go_wp2_with fail
      refine (mem_join [BlockA g _ 25] H2.out s2 fj3).mono ?_
      rintro e w5 ⟨rfl, hm⟩
      have H3 := Lib.hid hm
      clear hm H2
      go_wp2_with fail
      refine (mem_ask [BlockA g _ 25] H3.out s3 (fa1 true)).mono ?_
      rintro e w6 ⟨rfl, hm⟩
      have H4 := Lib.hid hm
      clear hm H3
      go_wp2_with fail
      go_roundw
      case rel => exact .inr (.inr ⟨rfl, H4⟩)
      case measure => simp [intOf]
    · have H1 := Lib.hid (show Mem w [] wr [TbA pw true F3 FK, TbA pd false F3 FK] from HM.out.drop [])
      clear HM
      go_wp2_with fail
      refine (mem_ask [TbA pw true F3 FK] H1.out s4 fd2).mono ?_
      rintro e w3 ⟨rfl, hm⟩
      have H2 := Lib.hid hm
      clear hm H1
      go_wp2_with fail
      refine (mem_ask [TbA pw true F3 FK] H2.out s4 fd3).mono ?_
      rintro e w4 ⟨rfl, hm⟩
      have H3 := Lib.hid (show Mem w [] w4 (TbA pw true F3 FK :: [TbA pd false FD FK]) from hm)
      clear hm H2
      go_wp2_with fail
      refine (mem_ask [] H3.out s4 fw2).mono ?_
      rintro e w5 ⟨rfl, hm⟩
      have H4 := Lib.hid (show Mem w [] w5 (TbA pw true FW2 FK :: [TbA pd false FD FK]) from hm)
      clear hm H3
      go_wp2_with fail
      refine (mem_ask [] H4.out s6 fw3).mono ?_
      rintro e w6 ⟨rfl, hm⟩
      have H5 := Lib.hid (show Mem w [] w6 (TbA pw true FW2 FK3 :: [TbA pd false FD FK]) from hm)
      clear hm H4
      have hh := mem_holder (r := [TbA pd false FD FK]) [] H5.out s7 ky
      rw [fwh.1, fwh.2] at hh
      go_wp2_with fail
      refine hh.mono ?_
      rintro e w7 ⟨rfl, hm⟩
      have H6 := Lib.hid (show Mem w [] w7 (TbA pw true FW2 FK3 :: [TbA pd false FD FK]) from hm)
      clear hm H5 hh
      go_wp2_with fail
      refine (mem_waitids (r := [TbA pd false FD FK]) [] H6.out s7 ky).mono ?_
      rintro e w8 ⟨S, a, c, hp, -, rfl, hm⟩
      rw [fww] at hp
      obtain rfl := List.perm_singleton.1 hp
      have H7 := Lib.hid (show Mem w [] w8 [RowA 3 1 a 1 c [.int .i64 2], TbA pw true FW2 FK3, TbA pd false FD FK] from hm)
      clear hm hp H6
      have H7s := Lib.hid (show Mem w [] w8 ([RowA 3 1 a 1 c [.int .i64 2], TbA pw true FW2 FK3] ++ TbA pd false FD FK :: []) from H7.out)
      go_wp2_with fail
      refine (mem_leave [RowA 3 1 a 1 c [.int .i64 2], TbA pw true FW2 FK3] H7s.out s5 fdl).mono ?_
      rintro e w9 ⟨rfl, hm⟩
      have H8 := Lib.hid hm
      clear hm H7 H7s
      have hh := mem_holder [RowA 3 1 a 1 c [.int .i64 2], TbA pw true FW2 FK3] H8.out s8 ky
      rw [fwh.1, fwh.2] at hh
      go_wp2_with fail
      refine hh.mono ?_
      rintro e w10 ⟨rfl, hm⟩
      have H9 := Lib.hid hm
      clear hm H8 hh
      go_wp2_with fail
      refine (mem_join [RowA 3 1 a 1 c [.int .i64 2], TbA pw true FW2 FK3] H9.out s8 fdj).mono ?_
      rintro e w11 ⟨rfl, hm⟩
      have H10 := Lib.hid hm
      clear hm H9
      go_wp2_with fail
      refine (mem_ask [RowA 3 1 a 1 c [.int .i64 2], TbA pw true FW2 FK3] H10.out s8 fd9).mono ?_
      rintro e w12 ⟨rfl, hm⟩
      have H11 := Lib.hid hm
      clear hm H10
      have hed := mem_edges [RowA 3 1 a 1 c [.int .i64 2], TbA pw true FW2 FK3] H11.out s8
      rw [fde] at hed
      have HED := Lib.hid hed
      clear hed
      obtain ⟨E, _, hrow⟩ := Mem.get [] (show Mem w [] w12 ([] ++ RowA 3 1 a 1 c [.int .i64 2] :: [TbA pw true FW2 FK3, TbA pd false FG FK3]) from H11.out)
      obtain ⟨g2, rfl, hx⟩ := hrow.cellAt 0 (by simp)
      simp only [List.getElem_cons_zero] at hx
      clear hrow
      go_wp2_with fail
      refine (HAN.out _).mono ?_
      rintro e w13 ⟨rfl, rfl⟩
      go_wp2_with fail
      refine HED.out.mono ?_
      rintro e w14 ⟨a1, c1, rfl, hm⟩
      have H12 := Lib.hid (show Mem w [] w14 ([RowA 44 2 a1 0 c1 [], RowA 3 1 (some ⟨g2, 0, none⟩) 1 c [.int .i64 2]] ++ TbA pw true FW2 FK3 :: [TbA pd false FG FK3]) from hm)
      have hed := mem_edges [RowA 44 2 a1 0 c1 [], RowA 3 1 (some ⟨g2, 0, none⟩) 1 c [.int .i64 2]] H12.out s7
      rw [fwe] at hed
      have HED2 := Lib.hid hed
      clear hm hed HED
      go_wp2_with fail
      refine HED2.out.mono ?_
      rintro e w15 ⟨a2, c2, rfl, hm⟩
      have HB := Lib.hid hm.bel
      clear hm
      go_wp2_with fail
      refine (HMN.out _).mono ?_
      rintro e w16 ⟨rfl, rfl⟩
      go_wp2_with fail
      go_ret
      exact ⟨rfl, HB.out⟩
end Go.Proofs.Ytlmfpkfgjfdhgaa
