/- Lines that are copied. -/
import Derived.Test.YtnemgmlhcjhdhaaZ
namespace Go.Proofs.Ytnemgmlhcjhdhaa
open Go.RowKit
theorem infoLn : (Try.prog.info? 34).map (fun i => (i.zero, i.size, i.bytes)) = some (some (.agg #[.string ⟨#[]⟩, .slice none 0 0, .slice none 0 0]), 3, 64) := by kernel_rfl
/-- lines that can be read. -/
def LinesAt (w : World) (a : Option Addr) (n : Nat) (L : List Li) : Prop := n = L.length ∧ ∀ j (h : j < L.length), ∃ g o x, a = some ⟨g, o, none⟩ ∧ lnAt w g (o + j * 3) x ∧ x.key = L[j].key ∧ HdsAt w x.hs.a x.hs.n L[j].hs ∧ HdsAt w x.qs.a x.qs.n L[j].qs ∧ x.hs.n ≤ maxLen ∧ x.qs.n ≤ maxLen
theorem LinesAt.below {w w' : World} {a : Option Addr} {n : Nat} {L : List Li} (h : LinesAt w a n L) (b : Below w.heap.size w w') : LinesAt w' a n L :=
  ⟨h.1, fun j hj => let ⟨g, o, x, e, h1, h2, h3, h4, h5⟩ := h.2 j hj; ⟨g, o, x, e, h1.below b, h2, h3.below b, h4.below b, h5⟩⟩
/-- an answer that is new lines. -/
def NewL (w : World) (L : List Li) (e : Ending) (w' : World) : Prop := ∃ b d X, e = .returned (.slice b L.length d) ∧ X.map (·.key) = L.map (·.key) ∧ Mem w [] w' (RowA 34 3 b L.length d (lnFlat X) :: rowsOf X L)
set_option maxRecDepth 100000 in
set_option maxHeartbeats 8000000 in
theorem copied_any (a : Option Addr) (n c : Nat) (L : List Li) (w : World) (h : LinesAt w a n L) (hb : Sm 1000 L) : Calls Try.prog 32 #[.slice a n c] w (NewL w L) := by
  obtain rfl := h.1
  have HL := Lib.hid h
  have HSM := Lib.hid hb
  have hn4 : L.length ≤ 1000 := hb.1
  have M0 := Lib.hid ((Mem.nil w).new (Below.refl _ _) (As := [RowA 34 3 none 0 0 (lnFlat [])]) (all_one ⟨rfl, Row.nil _ _ _⟩) (by simp [blkOf]))
  clear h hb
  go_enter Try.func32, Try.ntmps32
  go_wp2_with fail
  go_loopw [3, 8] (fun v jv wr => ∃ i : Nat, i ≤ L.length ∧ jv = .int .i64 (i : Nat) ∧ Hid (∃ b d X, v = .slice b i d ∧ X.map (·.key) = (L.take i).map (·.key) ∧ Mem w [] wr (RowA 34 3 b i d (lnFlat X) :: rowsOf X (L.take i)))) (fun _ jv _ => L.length - (intOf jv).toNat)
  case atStart => exact ⟨0, Nat.zero_le _, rfl, Lib.hid ⟨none, 0, [], rfl, by simp, by simpa [rowsOf] using M0.out⟩⟩
  case round =>
    obtain ⟨w1, rfl⟩ : ∃ w1, w1 = wr := ⟨_, rfl⟩
    obtain ⟨i, hi, rfl, hS⟩ := hrel
    clear M0
    obtain ⟨b, d, X, rfl, hk, hm⟩ := hS.out
    clear hS
    by_cases hlt : i < L.length
    · obtain ⟨g, o, x, rfl, hx, hxk, hxh, hxq, hx1, hx2⟩ := HL.out.2 i hlt
      obtain ⟨k0, k1, k2⟩ := hx.below hm.bel
      have hsm := HSM.out.2 _ (List.getElem_mem hlt)
      have HH := Lib.hid hxh
      have HQ := Lib.hid hxq
      have htk : L.take (i + 1) = L.take i ++ [L[i]] := List.take_succ_eq_append_getElem hlt
      have hxl : X.length = (L.take i).length := by have := congrArg List.length hk; simpa using this
      have HFIN : Hid (∀ W b' d' (s1 s2 : Sl), Mem w [] W (RowH s2 L[i].qs :: RowH s1 L[i].hs :: RowA 34 3 b' (i + 1) d' (lnFlat X ++ [.string x.key, slv s1, slv s2]) :: rowsOf X (L.take i)) → ∃ b d X, Value.slice b' (i + 1) d' = .slice b (i + 1) d ∧ X.map (·.key) = (L.take (i + 1)).map (·.key) ∧ Mem w [] W (RowA 34 3 b (i + 1) d (lnFlat X) :: rowsOf X (L.take (i + 1)))) := Lib.hid fun W b' d' s1 s2 hW => by
        refine ⟨b', d', X ++ [⟨x.key, s1, s2⟩], rfl, ?_, ?_⟩
        · rw [htk, List.map_append, List.map_append, hk, List.map_cons, List.map_cons, hxk]; rfl
        · rw [htk, rowsOf_append _ _ _ _ hxl, lnFlat_append]
          exact hW.perm (by
            show (RowH s2 L[i].qs :: RowH s1 L[i].hs :: RowA 34 3 b' (i + 1) d' (lnFlat X ++ [.string x.key, slv s1, slv s2]) :: rowsOf X (L.take i)).Perm (RowA 34 3 b' (i + 1) d' (lnFlat X ++ lnFlat [⟨x.key, s1, s2⟩]) :: (rowsOf X (L.take i) ++ [RowH s1 L[i].hs, RowH s2 L[i].qs]))
            rw [show lnFlat [⟨x.key, s1, s2⟩] = [.string x.key, slv s1, slv s2] from rfl]
            exact perm_ct fun x => by simp only [cnt_cons, cnt_append, cnt_nil]; omega)
      clear hk htk hxl hxk hx hxh hxq
      generalize L[i].hs = H at *
      generalize L[i].qs = Q at *
      obtain ⟨xk, ⟨ha, hn, hc⟩, ⟨qa, qn, qc⟩⟩ := x
      simp only at k0 k1 k2 HH HQ hx1 hx2 HFIN
      have HNH := Lib.hid (HH.out.1)
      have HNQ := Lib.hid (HQ.out.1)
      have HSZ := Lib.hid hsm
      have M1 := Lib.hid (hm.block #[.string xk, .slice ha hn hc, .slice qa qn qc] 34)
      clear hm hsm hx1 hx2
      have HC1 := Lib.hid fun W l (_ : Stables l) (hW : Mem w [] W l) => (clone_any ha hn hc H W (HH.out.below hW.bel) (by have := HNH.out; have := HSZ.out; omega)).mono fun e W' (h : ∃ s, e = .returned (slv s) ∧ Row W' 36 2 s.a s.n s.c (hdFlat H) ∧ Below W.heap.size W W' ∧ ∀ x ∈ blkOf s.a, W.heap.size ≤ x) => (by
        obtain ⟨s, he, hr, hb, hf⟩ := h
        exact ⟨s, he, hW.new hb (As := [RowH s H]) (all_one ⟨rfl, hr⟩) hf⟩ : ∃ s : Sl, e = .returned (slv s) ∧ Mem w [] W' (RowH s H :: l))
      have HC2 := Lib.hid fun W l (_ : Stables l) (hW : Mem w [] W l) => (clone_any qa qn qc Q W (HQ.out.below hW.bel) (by have := HNQ.out; have := HSZ.out; omega)).mono fun e W' (h : ∃ s, e = .returned (slv s) ∧ Row W' 36 2 s.a s.n s.c (hdFlat Q) ∧ Below W.heap.size W W' ∧ ∀ x ∈ blkOf s.a, W.heap.size ≤ x) => (by
        obtain ⟨s, he, hr, hb, hf⟩ := h
        exact ⟨s, he, hW.new hb (As := [RowH s Q]) (all_one ⟨rfl, hr⟩) hf⟩ : ∃ s : Sl, e = .returned (slv s) ∧ Mem w [] W' (RowH s Q :: l))
      go_wp2_with fail
      obtain ⟨w5, hw5⟩ : ∃ w5, w5 = w1.alloc (.cells #[.string xk, .slice ha hn hc, .slice qa qn qc] 34) := ⟨_, rfl⟩
      rw [← hw5] at M1 ⊢
      clear hw5 k0 k1 k2
      generalize w1.heap.size = b5 at *
      have m0 := M1.out.below (bel_drew w5)
      have hB5 := Mem.blk M1.out (g := b5) (cur := #[.string xk, .slice ha hn hc, .slice qa qn qc]) (T := 34) (by simp)
      obtain ⟨z0, -⟩ := cell_of_heap (i := 0) (v := .string xk) hB5 rfl
      obtain ⟨z1, -⟩ := cell_of_heap (i := 1) (v := .slice ha hn hc) hB5 rfl
      obtain ⟨z2, -⟩ := cell_of_heap (i := 2) (v := .slice qa qn qc) hB5 rfl
      clear hB5
      have K8 : Hid (∀ W l, Mem w [] W l → BlockA b5 #[.string xk, .slice ha hn hc, .slice qa qn qc] 34 ∈ l → W.cell? ⟨b5, 0, none⟩ = some (.string xk) ∧ W.cell? ⟨b5, 1, none⟩ = some (.slice ha hn hc) ∧ W.cell? ⟨b5, 2, none⟩ = some (.slice qa qn qc)) := Lib.hid fun W l h h7 => ⟨(cell_of_heap (Mem.blk h h7) rfl).1, (cell_of_heap (Mem.blk h h7) rfl).1, (cell_of_heap (Mem.blk h h7) rfl).1⟩
      go_region_held3 (fun W => W.cell? ⟨b5, 0, none⟩ = some (.string xk) ∧ W.cell? ⟨b5, 1, none⟩ = some (.slice ha hn hc) ∧ W.cell? ⟨b5, 2, none⟩ = some (.slice qa qn qc)) (first | exact K8.out _ _ (by assumption) (by simp) | exact K8.out _ _ (Mem.below (by assumption) (bel_new _ _)) (by simp))
        (first
          | ((go_at_call_of 35 (Value.slice ha hn hc); refine (HC1.out _ _ inferInstance (by assumption)).mono ?_; rintro e w2 ⟨⟨h1a, h1n, h1c⟩, rfl, m1⟩))
          | ((go_at_call_of 35 (Value.slice qa qn qc); refine (HC2.out _ _ inferInstance (by assumption)).mono ?_; rintro e w3 ⟨⟨q1a, q1n, q1c⟩, rfl, m3⟩))
          | ((obtain ⟨b4, d4, w4, hrun4, mB⟩ := Mem.app1 (P := Try.prog) (t := 29) (ty := 29) [RowH ⟨q1a, q1n, q1c⟩ Q, RowH ⟨h1a, h1n, h1c⟩ H, BlockA b5 #[.string xk, .slice ha hn hc, .slice qa qn qc] 34] (r := rowsOf X (L.take i)) Try.underlying29 infoLn (by rfl) (by decide) m3 [.string xk, .slice h1a h1n h1c, .slice q1a q1n q1c] (by rfl) (by simp [Value.oneCell']) (by omega) (by decide); have mB := Mem.perm mB (l' := RowH ⟨q1a, q1n, q1c⟩ Q :: RowH ⟨h1a, h1n, h1c⟩ H :: BlockA b5 #[.string xk, .slice ha hn hc, .slice qa qn qc] 34 :: RowA 34 3 b4 (i + 1) d4 (lnFlat X ++ [.string xk, .slice h1a h1n h1c, .slice q1a q1n q1c]) :: rowsOf X (L.take i)) (perm_ct fun x => by simp only [cnt_cons, cnt_append, cnt_nil]; omega); have HR4 := Lib.hid hrun4; clear hrun4; refine step_appendR rfl (.tmp 12) (.tmp 22) 29 29 rfl (.slice b i d) (.slice (some ⟨w3.heap.size, 0, none⟩) 1 1) (by simp [Act.eval]) (by simp [Act.eval]) HR4.out ?_))
          | ((obtain ⟨b4, d4, w4, hrun4, mB⟩ := Mem.app1 (P := Try.prog) (t := 29) (ty := 29) [RowH ⟨h1a, h1n, h1c⟩ H, RowH ⟨q1a, q1n, q1c⟩ Q, BlockA b5 #[.string xk, .slice ha hn hc, .slice qa qn qc] 34] (r := rowsOf X (L.take i)) Try.underlying29 infoLn (by rfl) (by decide) m1 [.string xk, .slice h1a h1n h1c, .slice q1a q1n q1c] (by rfl) (by simp [Value.oneCell']) (by omega) (by decide); have mB := Mem.perm mB (l' := RowH ⟨q1a, q1n, q1c⟩ Q :: RowH ⟨h1a, h1n, h1c⟩ H :: BlockA b5 #[.string xk, .slice ha hn hc, .slice qa qn qc] 34 :: RowA 34 3 b4 (i + 1) d4 (lnFlat X ++ [.string xk, .slice h1a h1n h1c, .slice q1a q1n q1c]) :: rowsOf X (L.take i)) (perm_ct fun x => by simp only [cnt_cons, cnt_append, cnt_nil]; omega); have HR4 := Lib.hid hrun4; clear hrun4; refine step_appendR rfl (.tmp 12) (.tmp 22) 29 29 rfl (.slice b i d) (.slice (some ⟨w2.heap.size, 0, none⟩) 1 1) (by simp [Act.eval, Act.put]) (by simp [Act.eval, Act.put]) HR4.out ?_))
          | (fail "none"))
      all_goals
        have HF := Lib.hid (HFIN.out w4 b4 d4 ⟨h1a, h1n, h1c⟩ ⟨q1a, q1n, q1c⟩ (Mem.drop [RowH ⟨q1a, q1n, q1c⟩ Q, RowH ⟨h1a, h1n, h1c⟩ H] (r := RowA 34 3 b4 (i + 1) d4 (lnFlat X ++ [.string xk, .slice h1a h1n h1c, .slice q1a q1n q1c]) :: rowsOf X (L.take i)) mB))
        clear m0 M1 K8 mB m1 m3
        go_wp2_with fail
        go_roundw
        case rel => exact ⟨i + 1, by omega, by go_num, HF⟩
        case measure => simp [intOf]; omega
    · obtain rfl : i = L.length := by omega
      rw [List.take_length] at hk hm
      have HF := Lib.hid (And.intro hk hm)
      clear hk hm
      go_wp2_with fail
      go_ret
      exact ⟨b, d, X, rfl, HF.out.1, HF.out.2⟩
end Go.Proofs.Ytnemgmlhcjhdhaa
