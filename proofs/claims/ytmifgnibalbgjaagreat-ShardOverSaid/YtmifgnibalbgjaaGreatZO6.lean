/- The calls whose answers the document fixes. -/
import Derived.Test.YtmifgnibalbgjaaGreatZO3
import Derived.Test.YtmifgnibalbgjaaGreatZN3
import Derived.Test.YtmifgnibalbgjaaGreatZO2
namespace Go.Proofs.YtmifgnibalbgjaaGreat
open Go.RowKit set_option linter.unusedVariables false set_option linter.unusedSimpArgs false
def fK : List ByteArray := [⟨#[107]⟩, ⟨#[]⟩]
def fS0 : Sh := sh0
theorem fi0 : SInv fK 0 fS0 := sinv0 fK
def fc1 : Cm := ⟨2, 1, 0, 0, 0, ⟨#[107]⟩, ⟨#[]⟩, 2, false⟩
def fS1 : Sh := (doM fS0 fc1).2
theorem fr1 : (doM fS0 fc1).1 = ⟨0, 0, ⟨#[]⟩, false⟩ := by kernel_rfl
theorem fd1 : doM fS0 fc1 = (⟨0, 0, ⟨#[]⟩, false⟩, fS1) := by rw [← fr1]; rfl
theorem fi1 : SInv fK 1 fS1 := fi0.step fc1 (by unfold fK fc1; simp)
def fc2 : Cm := ⟨4, 1, 0, 0, 1, ⟨#[107]⟩, ⟨#[118]⟩, 0, true⟩
def fS2 : Sh := (doM fS1 fc2).2
theorem fr2 : (doM fS1 fc2).1 = ⟨0, 0, ⟨#[]⟩, false⟩ := by kernel_rfl
theorem fd2 : doM fS1 fc2 = (⟨0, 0, ⟨#[]⟩, false⟩, fS2) := by rw [← fr2]; rfl
theorem fi2 : SInv fK 2 fS2 := fi1.step fc2 (by unfold fK fc2; simp)
def fc3 : Cm := ⟨3, 1, 0, 0, 2, ⟨#[107]⟩, ⟨#[]⟩, 0, false⟩
def fS3 : Sh := (doM fS2 fc3).2
theorem fr3 : (doM fS2 fc3).1 = ⟨0, 0, ⟨#[118]⟩, true⟩ := by kernel_rfl
theorem fd3 : doM fS2 fc3 = (⟨0, 0, ⟨#[118]⟩, true⟩, fS3) := by rw [← fr3]; rfl
theorem fi3 : SInv fK 3 fS3 := fi2.step fc3 (by unfold fK fc3; simp)
def fc4 : Cm := ⟨2, 2, 0, 0, 0, ⟨#[107]⟩, ⟨#[]⟩, 1, false⟩
def fS4 : Sh := (doM fS3 fc4).2
theorem fr4 : (doM fS3 fc4).1 = ⟨10, 0, ⟨#[]⟩, false⟩ := by kernel_rfl
theorem fd4 : doM fS3 fc4 = (⟨10, 0, ⟨#[]⟩, false⟩, fS4) := by rw [← fr4]; rfl
theorem fi4 : SInv fK 4 fS4 := fi3.step fc4 (by unfold fK fc4; simp)
def fc5 : Cm := ⟨7, 1, 0, 0, 0, ⟨#[]⟩, ⟨#[]⟩, 0, true⟩
def fS5 : Sh := (doM fS4 fc5).2
theorem fr5 : (doM fS4 fc5).1 = ⟨0, 0, ⟨#[]⟩, false⟩ := by kernel_rfl
theorem fd5 : doM fS4 fc5 = (⟨0, 0, ⟨#[]⟩, false⟩, fS5) := by rw [← fr5]; rfl
theorem fi5 : SInv fK 5 fS5 := fi4.step fc5 (by unfold fK fc5; simp)
def fc6 : Cm := ⟨3, 2, 0, 0, 1, ⟨#[107]⟩, ⟨#[]⟩, 0, false⟩
def fS6 : Sh := (doM fS5 fc6).2
theorem fr6 : (doM fS5 fc6).1 = ⟨0, 0, ⟨#[118]⟩, true⟩ := by kernel_rfl
theorem fd6 : doM fS5 fc6 = (⟨0, 0, ⟨#[118]⟩, true⟩, fS6) := by rw [← fr6]; rfl
theorem fi6 : SInv fK 6 fS6 := fi5.step fc6 (by unfold fK fc6; simp)
def fc7 : Cm := ⟨2, 1, 0, 0, 9, ⟨#[107]⟩, ⟨#[]⟩, 2, false⟩
def fS7 : Sh := (doM fS6 fc7).2
theorem fr7 : (doM fS6 fc7).1 = ⟨9, 0, ⟨#[]⟩, false⟩ := by kernel_rfl
theorem fd7 : doM fS6 fc7 = (⟨9, 0, ⟨#[]⟩, false⟩, fS7) := by rw [← fr7]; rfl
theorem fi7 : SInv fK 7 fS7 := fi6.step fc7 (by unfold fK fc7; simp)
def fc8 : Cm := ⟨1, 3, 0, 7, 0, ⟨#[]⟩, ⟨#[]⟩, 0, false⟩
def fS8 : Sh := (doM fS7 fc8).2
theorem fr8 : (doM fS7 fc8).1 = ⟨0, 1, ⟨#[]⟩, false⟩ := by kernel_rfl
theorem fd8 : doM fS7 fc8 = (⟨0, 1, ⟨#[]⟩, false⟩, fS8) := by rw [← fr8]; rfl
theorem fi8 : SInv fK 8 fS8 := fi7.step fc8 (by unfold fK fc8; simp)
theorem fv3 : valM (versM fS3.cells ⟨#[107]⟩) 1099511627776 = (⟨#[]⟩, false) := by kernel_rfl
theorem fv5 : valM (versM fS5.cells ⟨#[107]⟩) 1099511627776 = (⟨#[118]⟩, true) := by kernel_rfl
theorem fo8 : kGet 1 fS8.dones = some 0 := by kernel_rfl
theorem fm8 : fS8.moment = 1 := by kernel_rfl
theorem fl8 : fS8.lives.length = 1 := by kernel_rfl
theorem fw4 : ownsL fS4.locks = [1, 2] := by kernel_rfl
theorem fb41 : blkL fS4.locks 1 = [] := by kernel_rfl
theorem fb42 : blkL fS4.locks 2 = [1] := by kernel_rfl
theorem fe4 : edgesM fS4.locks = [(2, 1)] := by
 have h1 : riseI [1, 2] = [1, 2] := strict_ext (rise_strict _) (by decide) fun x => rise_mem
 unfold edgesM edgeF
 rw [fw4, h1]
 simp only [List.flatMap_cons, List.flatMap_nil]
 rw [fb41, fb42, rise_of_nil, rise_one]
 rfl
theorem COk.of {K : List ByteArray} {n : Nat} {S : Sh} (h : SInv K n S) (hK : K.length ≤ 900) (hn : n ≤ 390) : COk 1000 S.cells := h.cells.ok (by omega) (by omega)
theorem sdo_mem {w0 W : World} {D0 : List Nat} {p : Nat} {S : Sh} {r : List Asn} [Stables r] (h : Mem w0 D0 W (ShA p S :: r)) (c : Cm) (htx : i64 c.tx) (hkey : c.key.size ≤ maxLen) (hval : c.value.size ≤ maxLen) (K : List ByteArray) (n : Nat) (hS : SInv K n S) (hn : n ≤ 390) (hK : K.length ≤ 900) {q : Rp} {S' : Sh} (e : doM S c = (q, S')) :
  Calls Tryz.prog 13 #[.pointer (some ⟨p, 0, none⟩), c.val] W fun e w' => e = .returned q.val ∧ Mem w0 D0 w' (ShA p S' :: r) :=
 (Mem.head h (Q := fun e => e = .returned q.val) (B := fun _ => [ShA p S']) fun D' hD' => by
  have := sdo_any p S c W hD' htx hkey hval K n hS hn hK
  rw [e] at this
  exact this).mono fun e w' h => h
set_option maxRecDepth 100000 in
set_option maxHeartbeats 16000000 in
theorem fixed_any (w : World) : Calls Tryz.prog 9 #[] w fun e w' => e = .returned (.bool true) ∧ Below w.heap.size w w' := by
 have HN := Lib.hid sh_new
 go_enter Tryz.func9, Tryz.ntmps9
 go_wp2_with fail
 refine (HN.out w).mono ?_
 rintro e w1 ⟨p, rfl, hm⟩
 have H0 : Hid (Mem w [] w1 (ShA p fS0 :: [])) := Lib.hid hm
 clear hm HN
 go_wp2_with fail
 have HD := Lib.hid (sdo_mem H0.out fc1 (by decide) (by decide) (by decide) fK 0 fi0 (by decide) (by decide) fd1)
 simp only [fc1, Cm.val, Rp.val] at HD
 clear H0
 refine HD.out.mono ?_
 rintro e w1d ⟨rfl, hm⟩
 have H1 : Hid (Mem w [] (w1d.alloc (.cells #[.int .i64 0, .int .i64 0, .string ⟨#[]⟩, .bool false] 35)) (ShA p fS1 :: BlockA w1d.heap.size #[.int .i64 0, .int .i64 0, .string ⟨#[]⟩, .bool false] 35 :: [])) := Lib.hid (Mem.swap [] (hm.block #[.int .i64 0, .int .i64 0, .string ⟨#[]⟩, .bool false] 35))
 clear hm HD
 go_wp2_with fail
 obtain ⟨W1, hW1⟩ : ∃ W, W = w1d.alloc (.cells #[.int .i64 0, .int .i64 0, .string ⟨#[]⟩, .bool false] 35) := ⟨_, rfl⟩
 rw [← hW1] at H1 ⊢
 clear hW1
 generalize w1d.heap.size = b1 at *
 have HD := Lib.hid (sdo_mem H1.out fc2 (by decide) (by decide) (by decide) fK 1 fi1 (by decide) (by decide) fd2)
 simp only [fc2, Cm.val, Rp.val] at HD
 clear H1
 refine HD.out.mono ?_
 rintro e w2d ⟨rfl, hm⟩
 have H2 : Hid (Mem w [] (w2d.alloc (.cells #[.int .i64 0, .int .i64 0, .string ⟨#[]⟩, .bool false] 35)) (ShA p fS2 :: BlockA w2d.heap.size #[.int .i64 0, .int .i64 0, .string ⟨#[]⟩, .bool false] 35 :: [BlockA b1 #[.int .i64 0, .int .i64 0, .string ⟨#[]⟩, .bool false] 35])) := Lib.hid (Mem.swap [] (hm.block #[.int .i64 0, .int .i64 0, .string ⟨#[]⟩, .bool false] 35))
 clear hm HD
 go_wp2_with fail
 obtain ⟨W2, hW2⟩ : ∃ W, W = w2d.alloc (.cells #[.int .i64 0, .int .i64 0, .string ⟨#[]⟩, .bool false] 35) := ⟨_, rfl⟩
 rw [← hW2] at H2 ⊢
 clear hW2
 generalize w2d.heap.size = b2 at *
 have HD := Lib.hid (sdo_mem H2.out fc3 (by decide) (by decide) (by decide) fK 2 fi2 (by decide) (by decide) fd3)
 simp only [fc3, Cm.val, Rp.val] at HD
 clear H2
 refine HD.out.mono ?_
 rintro e w3d ⟨rfl, hm⟩
 have H3 : Hid (Mem w [] (w3d.alloc (.cells #[.int .i64 0, .int .i64 0, .string ⟨#[118]⟩, .bool true] 35)) (ShA p fS3 :: BlockA w3d.heap.size #[.int .i64 0, .int .i64 0, .string ⟨#[118]⟩, .bool true] 35 :: [BlockA b2 #[.int .i64 0, .int .i64 0, .string ⟨#[]⟩, .bool false] 35, BlockA b1 #[.int .i64 0, .int .i64 0, .string ⟨#[]⟩, .bool false] 35])) := Lib.hid (Mem.swap [] (hm.block #[.int .i64 0, .int .i64 0, .string ⟨#[118]⟩, .bool true] 35))
 clear hm HD
 go_wp2_with fail
 obtain ⟨W3, hW3⟩ : ∃ W, W = w3d.alloc (.cells #[.int .i64 0, .int .i64 0, .string ⟨#[118]⟩, .bool true] 35) := ⟨_, rfl⟩
 rw [← hW3] at H3 ⊢
 clear hW3
 generalize w3d.heap.size = b3 at *
 obtain ⟨DV1, hV1⟩ := Mem.get [] (A := ShA p fS3) H3.out
 have HV := Lib.hid (sh_value hV1 (COk.of fi3 (by decide) (by decide)) ⟨#[107]⟩ (by decide))
 rw [fv3] at HV
 clear hV1
 refine HV.out.mono ?_
 rintro e wV1 ⟨rfl, hb⟩
 have HV1 : Hid (Mem w [] wV1 (ShA p fS3 :: [BlockA b3 #[.int .i64 0, .int .i64 0, .string ⟨#[118]⟩, .bool true] 35, BlockA b2 #[.int .i64 0, .int .i64 0, .string ⟨#[]⟩, .bool false] 35, BlockA b1 #[.int .i64 0, .int .i64 0, .string ⟨#[]⟩, .bool false] 35])) := Lib.hid (H3.out.below hb)
 clear HV hb H3
 go_wp2_with fail
 have HD := Lib.hid (sdo_mem HV1.out fc4 (by decide) (by decide) (by decide) fK 3 fi3 (by decide) (by decide) fd4)
 simp only [fc4, Cm.val, Rp.val] at HD
 clear HV1
 refine HD.out.mono ?_
 rintro e w4d ⟨rfl, hm⟩
 have H4 : Hid (Mem w [] (w4d.alloc (.cells #[.int .i64 10, .int .i64 0, .string ⟨#[]⟩, .bool false] 35)) (ShA p fS4 :: BlockA w4d.heap.size #[.int .i64 10, .int .i64 0, .string ⟨#[]⟩, .bool false] 35 :: [BlockA b3 #[.int .i64 0, .int .i64 0, .string ⟨#[118]⟩, .bool true] 35, BlockA b2 #[.int .i64 0, .int .i64 0, .string ⟨#[]⟩, .bool false] 35, BlockA b1 #[.int .i64 0, .int .i64 0, .string ⟨#[]⟩, .bool false] 35])) := Lib.hid (Mem.swap [] (hm.block #[.int .i64 10, .int .i64 0, .string ⟨#[]⟩, .bool false] 35))
 clear hm HD
 go_wp2_with fail
 obtain ⟨W4, hW4⟩ : ∃ W, W = w4d.alloc (.cells #[.int .i64 10, .int .i64 0, .string ⟨#[]⟩, .bool false] 35) := ⟨_, rfl⟩
 rw [← hW4] at H4 ⊢
 clear hW4
 generalize w4d.heap.size = b4 at *
 obtain ⟨DE, hE⟩ := Mem.get [] (A := ShA p fS4) H4.out
 have HE := Lib.hid (sh_edges hE (fi4.lsm.mono (by decide)) (by rw [fe4]; decide))
 rw [fe4] at HE
 clear hE
 refine HE.out.mono ?_
 rintro e wE ⟨ea, ec, rfl, hm⟩
 have HE1 : Hid (Mem w [] wE (ShA p fS4 :: RowA 89 2 ea 1 ec (egFlat [(2, 1)]) :: [BlockA b4 #[.int .i64 10, .int .i64 0, .string ⟨#[]⟩, .bool false] 35, BlockA b3 #[.int .i64 0, .int .i64 0, .string ⟨#[118]⟩, .bool true] 35, BlockA b2 #[.int .i64 0, .int .i64 0, .string ⟨#[]⟩, .bool false] 35, BlockA b1 #[.int .i64 0, .int .i64 0, .string ⟨#[]⟩, .bool false] 35])) := Lib.hid (Mem.swap [] (r := [BlockA b4 #[.int .i64 10, .int .i64 0, .string ⟨#[]⟩, .bool false] 35, BlockA b3 #[.int .i64 0, .int .i64 0, .string ⟨#[118]⟩, .bool true] 35, BlockA b2 #[.int .i64 0, .int .i64 0, .string ⟨#[]⟩, .bool false] 35, BlockA b1 #[.int .i64 0, .int .i64 0, .string ⟨#[]⟩, .bool false] 35]) (H4.out.join hm))
 clear HE hm H4
 go_wp2_with fail
 have HD := Lib.hid (sdo_mem HE1.out fc5 (by decide) (by decide) (by decide) fK 4 fi4 (by decide) (by decide) fd5)
 simp only [fc5, Cm.val, Rp.val] at HD
 clear HE1
 refine HD.out.mono ?_
 rintro e w5d ⟨rfl, hm⟩
 have H5 : Hid (Mem w [] (w5d.alloc (.cells #[.int .i64 0, .int .i64 0, .string ⟨#[]⟩, .bool false] 35)) (ShA p fS5 :: BlockA w5d.heap.size #[.int .i64 0, .int .i64 0, .string ⟨#[]⟩, .bool false] 35 :: [RowA 89 2 ea 1 ec (egFlat [(2, 1)]), BlockA b4 #[.int .i64 10, .int .i64 0, .string ⟨#[]⟩, .bool false] 35, BlockA b3 #[.int .i64 0, .int .i64 0, .string ⟨#[118]⟩, .bool true] 35, BlockA b2 #[.int .i64 0, .int .i64 0, .string ⟨#[]⟩, .bool false] 35, BlockA b1 #[.int .i64 0, .int .i64 0, .string ⟨#[]⟩, .bool false] 35])) := Lib.hid (Mem.swap [] (hm.block #[.int .i64 0, .int .i64 0, .string ⟨#[]⟩, .bool false] 35))
 clear hm HD
 go_wp2_with fail
 obtain ⟨W5, hW5⟩ : ∃ W, W = w5d.alloc (.cells #[.int .i64 0, .int .i64 0, .string ⟨#[]⟩, .bool false] 35) := ⟨_, rfl⟩
 rw [← hW5] at H5 ⊢
 clear hW5
 generalize w5d.heap.size = b5 at *
 obtain ⟨DV2, hV2⟩ := Mem.get [] (A := ShA p fS5) H5.out
 have HV := Lib.hid (sh_value hV2 (COk.of fi5 (by decide) (by decide)) ⟨#[107]⟩ (by decide))
 rw [fv5] at HV
 clear hV2
 refine HV.out.mono ?_
 rintro e wV2 ⟨rfl, hb⟩
 have HV2 : Hid (Mem w [] wV2 (ShA p fS5 :: [BlockA b5 #[.int .i64 0, .int .i64 0, .string ⟨#[]⟩, .bool false] 35, RowA 89 2 ea 1 ec (egFlat [(2, 1)]), BlockA b4 #[.int .i64 10, .int .i64 0, .string ⟨#[]⟩, .bool false] 35, BlockA b3 #[.int .i64 0, .int .i64 0, .string ⟨#[118]⟩, .bool true] 35, BlockA b2 #[.int .i64 0, .int .i64 0, .string ⟨#[]⟩, .bool false] 35, BlockA b1 #[.int .i64 0, .int .i64 0, .string ⟨#[]⟩, .bool false] 35])) := Lib.hid (H5.out.below hb)
 clear HV hb H5
 go_wp2_with fail
 have HD := Lib.hid (sdo_mem HV2.out fc6 (by decide) (by decide) (by decide) fK 5 fi5 (by decide) (by decide) fd6)
 simp only [fc6, Cm.val, Rp.val] at HD
 clear HV2
 refine HD.out.mono ?_
 rintro e w6d ⟨rfl, hm⟩
 have H6 : Hid (Mem w [] (w6d.alloc (.cells #[.int .i64 0, .int .i64 0, .string ⟨#[118]⟩, .bool true] 35)) (ShA p fS6 :: BlockA w6d.heap.size #[.int .i64 0, .int .i64 0, .string ⟨#[118]⟩, .bool true] 35 :: [BlockA b5 #[.int .i64 0, .int .i64 0, .string ⟨#[]⟩, .bool false] 35, RowA 89 2 ea 1 ec (egFlat [(2, 1)]), BlockA b4 #[.int .i64 10, .int .i64 0, .string ⟨#[]⟩, .bool false] 35, BlockA b3 #[.int .i64 0, .int .i64 0, .string ⟨#[118]⟩, .bool true] 35, BlockA b2 #[.int .i64 0, .int .i64 0, .string ⟨#[]⟩, .bool false] 35, BlockA b1 #[.int .i64 0, .int .i64 0, .string ⟨#[]⟩, .bool false] 35])) := Lib.hid (Mem.swap [] (hm.block #[.int .i64 0, .int .i64 0, .string ⟨#[118]⟩, .bool true] 35))
 clear hm HD
 go_wp2_with fail
 obtain ⟨W6, hW6⟩ : ∃ W, W = w6d.alloc (.cells #[.int .i64 0, .int .i64 0, .string ⟨#[118]⟩, .bool true] 35) := ⟨_, rfl⟩
 rw [← hW6] at H6 ⊢
 clear hW6
 generalize w6d.heap.size = b6 at *
 have HD := Lib.hid (sdo_mem H6.out fc7 (by decide) (by decide) (by decide) fK 6 fi6 (by decide) (by decide) fd7)
 simp only [fc7, Cm.val, Rp.val] at HD
 clear H6
 refine HD.out.mono ?_
 rintro e w7d ⟨rfl, hm⟩
 have H7 : Hid (Mem w [] (w7d.alloc (.cells #[.int .i64 9, .int .i64 0, .string ⟨#[]⟩, .bool false] 35)) (ShA p fS7 :: BlockA w7d.heap.size #[.int .i64 9, .int .i64 0, .string ⟨#[]⟩, .bool false] 35 :: [BlockA b6 #[.int .i64 0, .int .i64 0, .string ⟨#[118]⟩, .bool true] 35, BlockA b5 #[.int .i64 0, .int .i64 0, .string ⟨#[]⟩, .bool false] 35, RowA 89 2 ea 1 ec (egFlat [(2, 1)]), BlockA b4 #[.int .i64 10, .int .i64 0, .string ⟨#[]⟩, .bool false] 35, BlockA b3 #[.int .i64 0, .int .i64 0, .string ⟨#[118]⟩, .bool true] 35, BlockA b2 #[.int .i64 0, .int .i64 0, .string ⟨#[]⟩, .bool false] 35, BlockA b1 #[.int .i64 0, .int .i64 0, .string ⟨#[]⟩, .bool false] 35])) := Lib.hid (Mem.swap [] (hm.block #[.int .i64 9, .int .i64 0, .string ⟨#[]⟩, .bool false] 35))
 clear hm HD
 go_wp2_with fail
 obtain ⟨W7, hW7⟩ : ∃ W, W = w7d.alloc (.cells #[.int .i64 9, .int .i64 0, .string ⟨#[]⟩, .bool false] 35) := ⟨_, rfl⟩
 rw [← hW7] at H7 ⊢
 clear hW7
 generalize w7d.heap.size = b7 at *
 have HD := Lib.hid (sdo_mem H7.out fc8 (by decide) (by decide) (by decide) fK 7 fi7 (by decide) (by decide) fd8)
 simp only [fc8, Cm.val, Rp.val] at HD
 clear H7
 refine HD.out.mono ?_
 rintro e w8d ⟨rfl, hm⟩
 have H8 : Hid (Mem w [] (w8d.alloc (.cells #[.int .i64 0, .int .i64 1, .string ⟨#[]⟩, .bool false] 35)) (ShA p fS8 :: BlockA w8d.heap.size #[.int .i64 0, .int .i64 1, .string ⟨#[]⟩, .bool false] 35 :: [BlockA b7 #[.int .i64 9, .int .i64 0, .string ⟨#[]⟩, .bool false] 35, BlockA b6 #[.int .i64 0, .int .i64 0, .string ⟨#[118]⟩, .bool true] 35, BlockA b5 #[.int .i64 0, .int .i64 0, .string ⟨#[]⟩, .bool false] 35, RowA 89 2 ea 1 ec (egFlat [(2, 1)]), BlockA b4 #[.int .i64 10, .int .i64 0, .string ⟨#[]⟩, .bool false] 35, BlockA b3 #[.int .i64 0, .int .i64 0, .string ⟨#[118]⟩, .bool true] 35, BlockA b2 #[.int .i64 0, .int .i64 0, .string ⟨#[]⟩, .bool false] 35, BlockA b1 #[.int .i64 0, .int .i64 0, .string ⟨#[]⟩, .bool false] 35])) := Lib.hid (Mem.swap [] (hm.block #[.int .i64 0, .int .i64 1, .string ⟨#[]⟩, .bool false] 35))
 clear hm HD
 go_wp2_with fail
 obtain ⟨W8, hW8⟩ : ∃ W, W = w8d.alloc (.cells #[.int .i64 0, .int .i64 1, .string ⟨#[]⟩, .bool false] 35) := ⟨_, rfl⟩
 rw [← hW8] at H8 ⊢
 clear hW8
 generalize w8d.heap.size = b8 at *
 obtain ⟨DO, hO⟩ := Mem.get [] (A := ShA p fS8) H8.out
 have HDN := Lib.hid (sh_done hO 1 (by decide))
 rw [fo8] at HDN
 simp only [Option.getD_some, Option.isSome_some] at HDN
 clear hO
 refine HDN.out.mono ?_
 rintro e wO ⟨rfl, rfl⟩
 clear HDN
 go_wp2_with fail
 refine (from_bad (-1) 0 none none none none none 0 0 0 0 0 0 0 0 0 0 W8 (by decide)).mono ?_
 rintro e wF ⟨rfl, hb⟩
 have HF : Hid (Mem w [] wF (ShA p fS8 :: [BlockA b8 #[.int .i64 0, .int .i64 1, .string ⟨#[]⟩, .bool false] 35, BlockA b7 #[.int .i64 9, .int .i64 0, .string ⟨#[]⟩, .bool false] 35, BlockA b6 #[.int .i64 0, .int .i64 0, .string ⟨#[118]⟩, .bool true] 35, BlockA b5 #[.int .i64 0, .int .i64 0, .string ⟨#[]⟩, .bool false] 35, RowA 89 2 ea 1 ec (egFlat [(2, 1)]), BlockA b4 #[.int .i64 10, .int .i64 0, .string ⟨#[]⟩, .bool false] 35, BlockA b3 #[.int .i64 0, .int .i64 0, .string ⟨#[118]⟩, .bool true] 35, BlockA b2 #[.int .i64 0, .int .i64 0, .string ⟨#[]⟩, .bool false] 35, BlockA b1 #[.int .i64 0, .int .i64 0, .string ⟨#[]⟩, .bool false] 35])) := Lib.hid (H8.out.below hb)
 clear hb H8
 have hq := Mem.blk HF.out (g := b1) (cur := #[.int .i64 0, .int .i64 0, .string ⟨#[]⟩, .bool false]) (T := 35) (by simp)
 have k10 := (cell_of_heap (i := 0) (v := .int .i64 0) hq rfl).1
 clear hq
 have hq := Mem.blk HF.out (g := b2) (cur := #[.int .i64 0, .int .i64 0, .string ⟨#[]⟩, .bool false]) (T := 35) (by simp)
 have k20 := (cell_of_heap (i := 0) (v := .int .i64 0) hq rfl).1
 clear hq
 have hq := Mem.blk HF.out (g := b3) (cur := #[.int .i64 0, .int .i64 0, .string ⟨#[118]⟩, .bool true]) (T := 35) (by simp)
 have k32 := (cell_of_heap (i := 2) (v := .string ⟨#[118]⟩) hq rfl).1
 have k33 := (cell_of_heap (i := 3) (v := .bool true) hq rfl).1
 clear hq
 have hq := Mem.blk HF.out (g := b4) (cur := #[.int .i64 10, .int .i64 0, .string ⟨#[]⟩, .bool false]) (T := 35) (by simp)
 have k40 := (cell_of_heap (i := 0) (v := .int .i64 10) hq rfl).1
 clear hq
 have hq := Mem.blk HF.out (g := b5) (cur := #[.int .i64 0, .int .i64 0, .string ⟨#[]⟩, .bool false]) (T := 35) (by simp)
 have k50 := (cell_of_heap (i := 0) (v := .int .i64 0) hq rfl).1
 clear hq
 have hq := Mem.blk HF.out (g := b6) (cur := #[.int .i64 0, .int .i64 0, .string ⟨#[118]⟩, .bool true]) (T := 35) (by simp)
 have k60 := (cell_of_heap (i := 0) (v := .int .i64 0) hq rfl).1
 have k62 := (cell_of_heap (i := 2) (v := .string ⟨#[118]⟩) hq rfl).1
 have k63 := (cell_of_heap (i := 3) (v := .bool true) hq rfl).1
 clear hq
 have hq := Mem.blk HF.out (g := b7) (cur := #[.int .i64 9, .int .i64 0, .string ⟨#[]⟩, .bool false]) (T := 35) (by simp)
 have k70 := (cell_of_heap (i := 0) (v := .int .i64 9) hq rfl).1
 clear hq
 have hq := Mem.blk HF.out (g := b8) (cur := #[.int .i64 0, .int .i64 1, .string ⟨#[]⟩, .bool false]) (T := 35) (by simp)
 have k81 := (cell_of_heap (i := 1) (v := .int .i64 1) hq rfl).1
 clear hq
 have hrow := Mem.rowAt [ShA p fS8, BlockA b8 #[.int .i64 0, .int .i64 1, .string ⟨#[]⟩, .bool false] 35, BlockA b7 #[.int .i64 9, .int .i64 0, .string ⟨#[]⟩, .bool false] 35, BlockA b6 #[.int .i64 0, .int .i64 0, .string ⟨#[118]⟩, .bool true] 35, BlockA b5 #[.int .i64 0, .int .i64 0, .string ⟨#[]⟩, .bool false] 35] (r := [BlockA b4 #[.int .i64 10, .int .i64 0, .string ⟨#[]⟩, .bool false] 35, BlockA b3 #[.int .i64 0, .int .i64 0, .string ⟨#[118]⟩, .bool true] 35, BlockA b2 #[.int .i64 0, .int .i64 0, .string ⟨#[]⟩, .bool false] 35, BlockA b1 #[.int .i64 0, .int .i64 0, .string ⟨#[]⟩, .bool false] 35]) HF.out
 obtain ⟨ge, hge, hg0⟩ := hrow.cellAt 0 (by decide)
 subst hge
 obtain ⟨ge', hge, hg1⟩ := hrow.cellAt 1 (by decide)
 simp only [Option.some.injEq, Addr.mk.injEq, and_true] at hge
 subst hge
 rw [show (egFlat [(2, 1)])[0]'(by decide) = .int .i64 2 from rfl] at hg0
 rw [show (egFlat [(2, 1)])[1]'(by decide) = .int .i64 1 from rfl] at hg1
 obtain ⟨DM, hM⟩ := Mem.get [] (A := ShA p fS8) HF.out
 have HMO := Lib.hid (sh_moment hM)
 rw [fm8] at HMO
 have hbF := Lib.hid (Mem.bel HF.out)
 have HLV := Lib.hid fun W (hb : Below wF.heap.size wF W) => (Mem.get [] (A := ShA p fS8) (HF.out.below hb))
 clear hM hrow HF
 go_wp2_with fail
 refine HMO.out.mono ?_
 rintro e wG ⟨rfl, rfl⟩
 clear HMO
 go_wp2_with fail
 have hnd := none_do wF
 simp only [codeR, Rp.val] at hnd
 have hfld : ∀ w, (Instr.field 35 (.agg #[.int .i64 1, .int .i64 0, .string ⟨#[]⟩, .bool false]) 0).run Tryz.prog w = .ok (.int .i64 1) w := fun w => by kernel_rfl
 refine hnd.mono ?_
 rintro e wH ⟨rfl, hb⟩
 clear hnd
 have HBH := Lib.hid hb
 clear hb
 go_wp2_with fail
 refine (none_clock wH).mono ?_
 rintro e wI ⟨rfl, rfl⟩
 go_wp2_with fail
 obtain ⟨DL, hL⟩ := HLV.out wH HBH.out
 refine (sh_lives_any hL (by rw [fl8]; decide) (fun q hq => by have := fi8.ltx q hq; unfold i64; omega) (fun q hq => by
  have h1 := fi8.live q.1 q.2 (kGet_of_mem ordZ fi8.lrise hq)
  have h2 := wok_len h1.sort fun x hx => (h1.ws x hx).1
  exact Nat.le_trans h2 (by decide))).mono ?_
 rintro e wJ ⟨la, lc, X, rfl, -, hm⟩
 have HBJ := Lib.hid (hbF.out.trans ((HBH.out.trans ((Mem.bel hm).mono HBH.out.size)).mono hbF.out.size))
 clear hm hL HLV HBH hbF
 rw [fl8]
 go_wp2_with fail
 go_ret
 exact ⟨rfl, HBJ.out⟩
end Go.Proofs.YtmifgnibalbgjaaGreat
