/- ShardHidden walked. -/
import Derived.Test.YtmifgnibalbgjaaGreatZP1
import Derived.Test.YtmifgnibalbgjaaGreatZN3
namespace Go.Proofs.YtmifgnibalbgjaaGreat
open Go.RowKit Go.Sort set_option linter.unusedVariables false set_option linter.unusedSimpArgs false
/-- what a key has. -/
def wasW (S : Sh) (k : ByteArray) : Wr := ⟨k, (valM (versM S.cells k) 1099511627776).1, (valM (versM S.cells k) 1099511627776).2⟩
def wasM (S : Sh) (l : List Cm) : List Wr := l.map fun x => wasW S x.key
/-- what is wanted of a key, having seen so many of what was written. -/
def wantM (com : Bool) (w : Wr) (l : List Wr) : Wr := l.foldl (fun q x => if (com && decide (x.key = w.key)) = true then x else q) w
theorem wantM_next (com : Bool) (w : Wr) (l : List Wr) {i : Nat} (h : i < l.length) : wantM com w (l.take (i + 1)) = if (com && decide (l[i].key = w.key)) = true then l[i] else wantM com w (l.take i) := by
  unfold wantM
  rw [List.take_succ_eq_append_getElem h, List.foldl_append]
  rfl
theorem wantM_cases (com : Bool) (w : Wr) (l : List Wr) : (∃ x ∈ l, com = true ∧ x.key = w.key ∧ wantM com w l = x) ∨ ((∀ x ∈ l, ¬ (com = true ∧ x.key = w.key)) ∧ wantM com w l = w) := by
  have h : ∀ i, i ≤ l.length → (∃ x ∈ l.take i, com = true ∧ x.key = w.key ∧ wantM com w (l.take i) = x) ∨ ((∀ x ∈ l.take i, ¬ (com = true ∧ x.key = w.key)) ∧ wantM com w (l.take i) = w) := by
    intro i
    induction i with
    | zero => intro _; exact Or.inr ⟨fun x hx => by simp at hx, by simp [wantM]⟩
    | succ i ih =>
      intro hi
      have hl : i < l.length := by omega
      rw [wantM_next com w l hl]
      have hm : ∀ x, x ∈ l.take (i + 1) ↔ x ∈ l.take i ∨ x = l[i] := fun x => by
        rw [List.take_succ_eq_append_getElem hl, List.mem_append, List.mem_singleton]
      split
      · rename_i hc
        simp only [Bool.and_eq_true, decide_eq_true_eq] at hc
        exact Or.inl ⟨l[i], (hm _).2 (Or.inr rfl), hc.1, hc.2, rfl⟩
      · rename_i hc
        simp only [Bool.and_eq_true, decide_eq_true_eq] at hc
        rcases ih (by omega) with ⟨x, hx, h1, h2, h3⟩ | ⟨h1, h2⟩
        · exact Or.inl ⟨x, (hm _).2 (Or.inl hx), h1, h2, h3⟩
        · refine Or.inr ⟨fun x hx => ?_, h2⟩
          rcases (hm x).1 hx with hx | rfl
          · exact h1 x hx
          · exact hc
  have := h l.length (Nat.le_refl _)
  rwa [List.take_length] at this
theorem hidden_want {K : List ByteArray} {n : Nat} {S : Sh} (hS : SInv K n S) (hN : NotOver S) (c : Cm) (hm : S.moment < 1099511627776) (k : ByteArray) :
    valM (versM (doM S c).2.cells k) 1099511627776 = ((wantM (comB S c) (wasW S k) (hidW S c).2).v, (wantM (comB S c) (wasW S k) (hidW S c).2).h) ∧
    valM (versM (doM S c).2.cells k) S.moment = ((wasW S k).v, (wasW S k).h) := by
  obtain ⟨h1, h2, h3⟩ := hidden_val hS hN c hm k
  refine ⟨?_, h3⟩
  rcases wantM_cases (comB S c) (wasW S k) (hidW S c).2 with ⟨x, hx, e1, e2, e3⟩ | ⟨e1, e2⟩
  · rw [e3]
    exact h1 x hx e1 e2
  · rw [e2]
    exact h2 e1
theorem hidden_grows {K : List ByteArray} {n : Nat} {S : Sh} (hS : SInv K n S) (hN : NotOver S) (c : Cm) (hm : S.moment < 1099511627776) : decide (S.moment < (doM S c).2.moment) = (comB S c && decide (0 < (hidW S c).2.length)) := by
  have h := (hidden_moment hS hN c hm).1
  rw [Bool.eq_iff_iff]
  simp only [decide_eq_true_eq, Bool.and_eq_true]
  rw [h]
  constructor
  · rintro ⟨h1, h2⟩; exact ⟨h1, List.length_pos_iff.2 h2⟩
  · rintro ⟨h1, h2⟩; exact ⟨h1, List.length_pos_iff.1 h2⟩
def HHead (w : World) (p : Nat) (K : List ByteArray) (k : Nat) (wr : World) : Prop := ∃ S, SInv K k S ∧ NotOver S ∧ S.moment ≤ k ∧ Mem w [] wr [ShA p S]
theorem Mem.pickRow {w0 W : World} {D0 : List Nat} {A : Asn} {r : List Asn} {X : List (Int × Le)} (h : Mem w0 D0 W ([A] ++ ((X.map fun p => Le.row p.2) ++ r))) {q : Int × Le} (hq : q ∈ X) : Mem w0 D0 W (r ++ [Le.row q.2]) := by
  obtain ⟨T, U, rfl⟩ := List.append_of_mem hq
  refine Mem.cutEnd (r ++ [Le.row q.2]) (r := A :: ((T.map fun p => Le.row p.2) ++ U.map fun p => Le.row p.2)) (Mem.perm h (perm_ct fun x => ?_))
  simp only [List.map_append, List.map_cons, cnt_cons, cnt_append, cnt_nil]
  omega
/-- which of those who live it is, having seen so many. -/
def HSee (X : List (Int × Le)) (tx att : Int) (v6 v7 : Value) : Prop :=
  (v7 = .bool false ∧ v6 = .slice none 0 0 ∧ ∀ q ∈ X, ¬ (q.1 = tx ∧ q.2.att = att)) ∨ ∃ q ∈ X, q.1 = tx ∧ q.2.att = att ∧ v7 = .bool true ∧ v6 = .slice q.2.a q.2.n q.2.c
theorem HSee.skip {X : List (Int × Le)} {tx att : Int} {v6 v7 : Value} {i : Nat} (h : HSee (X.take i) tx att v6 v7) (hi : i < X.length) (hn : ¬ (X[i].1 = tx ∧ X[i].2.att = att)) : HSee (X.take (i + 1)) tx att v6 v7 := by
  have hm : ∀ x, x ∈ X.take (i + 1) ↔ x ∈ X.take i ∨ x = X[i] := fun x => by
    rw [List.take_succ_eq_append_getElem hi, List.mem_append, List.mem_singleton]
  rcases h with ⟨h1, h2, h3⟩ | ⟨q, hq, h1⟩
  · refine Or.inl ⟨h1, h2, fun q hq => ?_⟩
    rcases (hm q).1 hq with hq | rfl
    · exact h3 q hq
    · exact hn
  · exact Or.inr ⟨q, (hm q).2 (Or.inl hq), h1⟩
theorem HSee.hit {X : List (Int × Le)} {tx att : Int} {i : Nat} (hi : i < X.length) (hn : X[i].1 = tx ∧ X[i].2.att = att) : HSee (X.take (i + 1)) tx att (.slice X[i].2.a X[i].2.n X[i].2.c) (.bool true) :=
  Or.inr ⟨X[i], by rw [List.take_succ_eq_append_getElem hi]; exact List.mem_append_right _ (List.mem_singleton.2 rfl), hn.1, hn.2, rfl, rfl⟩
/-- what it wrote stands in memory. -/
theorem HSee.fin {w0 W : World} {D0 : List Nat} {A : Asn} {r : List Asn} [Stable A] [Stables r] {X : List (Int × Le)} {S : Sh} (hr : S.lives.Pairwise fun p q => ltZ p.1 q.1 = true) (hX : lvE X = S.lives) {c : Cm} {v6 v7 : Value} (h : HSee X c.tx c.att v6 v7) (M : Mem w0 D0 W ([A] ++ ((X.map fun p => Le.row p.2) ++ r))) :
    ∃ wa wn wc, v6 = .slice wa wn wc ∧ v7 = .bool (hidW S c).1 ∧ Mem w0 D0 W (r ++ [RowA 43 3 wa wn wc (wrFlat (hidW S c).2)]) := by
  rcases h with ⟨rfl, rfl, h3⟩ | ⟨q, hq, h1, h2, rfl, rfl⟩
  · have e : hidW S c = (false, []) := by
      unfold hidW
      rw [if_neg]
      intro hh
      simp only [Bool.and_eq_true, decide_eq_true_eq] at hh
      have h4 := kGet_mem (livesM_some hh.1)
      rw [← hX] at h4
      obtain ⟨q, hq, e⟩ := List.mem_map.1 h4
      have e1 : q.1 = c.tx := congrArg Prod.fst e
      have e2 : q.2.lv = liveM S c.tx := congrArg Prod.snd e
      refine h3 q hq ⟨e1, ?_⟩
      have : q.2.att = (liveM S c.tx).att := by rw [← e2]; rfl
      rw [this, hh.2]
    rw [e]
    refine ⟨none, 0, 0, rfl, rfl, ?_⟩
    have h1 : Mem w0 D0 W (([A] ++ (X.map fun p => Le.row p.2)) ++ r) := by simpa using M
    obtain ⟨D, hA, hD⟩ := h1.out
    obtain ⟨D1, D2, rfl, -, -, h2⟩ := all_append ([A] ++ (X.map fun p => Le.row p.2)) r hA
    have h3 : Mem w0 D0 W r := ⟨D2, h2, hD.touch, fun x hx => hD.fresh x (List.mem_append_right _ hx)⟩
    have h4 := h3.new (Below.refl _ _) (As := [RowA 43 3 none 0 0 (wrFlat [])]) (D' := []) (all_one ⟨rfl, Row.nil _ _ _⟩) (by simp)
    exact Mem.perm h4 (perm_ct fun x => by simp only [cnt_cons, cnt_append, cnt_nil]; omega)
  · have hm : (q.1, q.2.lv) ∈ S.lives := by rw [← hX]; exact List.mem_map.2 ⟨q, hq, rfl⟩
    have hg := kGet_of_mem ordZ hr hm
    rw [h1] at hg
    obtain ⟨a1, a2⟩ := livesM_iff hg
    have e : hidW S c = (true, q.2.ws) := by
      unfold hidW
      rw [a1, a2, if_pos (by simp [Le.lv, h2])]
      rfl
    rw [e]
    exact ⟨q.2.a, q.2.n, q.2.c, rfl, rfl, M.pickRow hq⟩
set_option maxRecDepth 100000 in
set_option maxHeartbeats 32000000 in
theorem hidden_any (a : Option Addr) (n c : Nat) (l : List Cm) (w : World) (hn : n ≤ maxLen) (h : CmsAt w a n l) :
    Calls Tryz.prog 4 #[.slice a n c] w (fun e w' => e = .returned (.bool true) ∧ Below w.heap.size w w') := by
  have HA := Lib.hid h
  have HFX := Lib.hid fixed_any
  have HFW := Lib.hid fun W (hb : Below w.heap.size w W) => few_any a n c l W hn (h.below hb)
  have HNW := Lib.hid sh_new
  have HNL := Lib.hid h.1
  unfold maxLen at hn
  clear h
  go_enter Tryz.func4, Tryz.ntmps4
  go_wp2_with fail
  refine (HFX.out w).mono ?_
  rintro e w1 ⟨rfl, hb⟩
  have HB := Lib.hid hb
  clear hb
  go_wp2_with fail
  refine (HFW.out _ HB.out).mono ?_
  rintro e w2 ⟨rfl, hb⟩
  have HB2 := Lib.hid (HB.out.trans (hb.mono HB.out.size))
  clear hb HFX HFW HB
  cases hfw : fewC l with
  | false =>
    clear hfw
    go_wp2_with fail
    go_ret
    exact ⟨rfl, HB2.out⟩
  | true =>
    have hn80 : n ≤ 80 := by rw [HNL.out]; exact fewC_len hfw
    have HKL := Lib.hid (show (l.map (·.key)).length ≤ 900 by rw [List.length_map, ← HNL.out]; omega)
    have HKM := Lib.hid (fun (i : Nat) (hi : i < l.length) => (List.mem_map.2 ⟨l[i], List.getElem_mem hi, rfl⟩ : l[i].key ∈ l.map (·.key)))
    clear hfw
    generalize l.map (·.key) = K at *
    go_wp2_with fail
    refine (HNW.out w2).mono ?_
    rintro e w3 ⟨p, rfl, hm⟩
    have HI : Hid (HHead w p K 0 w3) := Lib.hid ⟨sh0, sinv0 K, notOver0, by decide, ((Mem.nil w).below HB2.out).join hm⟩
    clear hm HB2 HNW
    go_wp2_with fail
    go_loopw [35] (fun j wr => ∃ k : Nat, k ≤ n ∧ j = .int .i64 k ∧ Hid (HHead w p K k wr)) (fun j _ => n - (intOf j).toNat)
    case atStart => exact ⟨0, Nat.zero_le _, rfl, HI⟩
    case round =>
      obtain ⟨W0, rfl⟩ : ∃ W0, W0 = wr := ⟨_, rfl⟩
      obtain ⟨k, hk, rfl, hS⟩ := hrel
      clear HI
      obtain ⟨S, hsi, hno, hmo, hmem⟩ := hS.out
      clear hS
      by_cases hlt : k < n
      · have hk2 : k < l.length := by rw [← HNL.out]; exact hlt
        obtain ⟨g, off, rfl, ⟨hx0, hx1, hx2, hx3, hx4, hx5, hx6, hx7, hx8⟩, ht, hz1, hz2⟩ := (HA.out.below hmem.bel).at hk2
        have HKE := Lib.hid (HKM.out k hk2)
        generalize l[k] = x at *
        obtain ⟨xk, xt, xa, xs, xo, xy, xv, xm, xb⟩ := x
        simp only at hx0 hx1 hx2 hx3 hx4 hx5 hx6 hx7 hx8 ht hz1 hz2 HKE
        have hmx : S.moment < 1099511627776 := by omega
        have HSI := Lib.hid hsi
        have HSI2 := Lib.hid (hsi.step ⟨xk, xt, xa, xs, xo, xy, xv, xm, xb⟩ HKE.out)
        have HNO2 := Lib.hid (hno.step ⟨xk, xt, xa, xs, xo, xy, xv, xm, xb⟩)
        have HMO2 := Lib.hid (hidden_moment hsi hno ⟨xk, xt, xa, xs, xo, xy, xv, xm, xb⟩ hmx).2
        have HWANT := Lib.hid (hidden_want hsi hno ⟨xk, xt, xa, xs, xo, xy, xv, xm, xb⟩ hmx)
        have HGROW := Lib.hid (hidden_grows hsi hno ⟨xk, xt, xa, xs, xo, xy, xv, xm, xb⟩ hmx)
        have HCOMB : Hid (comB S ⟨xk, xt, xa, xs, xo, xy, xv, xm, xb⟩ = (xk == 7 && xb && (hidW S ⟨xk, xt, xa, xs, xo, xy, xv, xm, xb⟩).1 && (doM S ⟨xk, xt, xa, xs, xo, xy, xv, xm, xb⟩).1.code == 0)) := Lib.hid rfl
        have hm0 := hsi.moment
        have M4 := Lib.hid (Mem.swap [] (r := []) (hmem.block #[.int .i64 xk, .int .i64 xt, .int .i64 xa, .int .i64 xs, .int .i64 xo, .string xy, .string xv, .int .i64 xm, .bool xb] 28))
        have hq := heap_new W0 (.cells #[.int .i64 xk, .int .i64 xt, .int .i64 xa, .int .i64 xs, .int .i64 xo, .string xy, .string xv, .int .i64 xm, .bool xb] 28)
        clear hsi hno hmem
        go_upto_region 11 with (fail)
        obtain ⟨w4, hw4⟩ : ∃ w4, w4 = W0.alloc (.cells #[.int .i64 xk, .int .i64 xt, .int .i64 xa, .int .i64 xs, .int .i64 xo, .string xy, .string xv, .int .i64 xm, .bool xb] 28) := ⟨_, rfl⟩
        rw [← hw4] at M4 hq ⊢
        clear hw4 hx0 hx1 hx2 hx3 hx4 hx5 hx6 hx7 hx8
        generalize W0.heap.size = b5 at *
        clear hq
        obtain ⟨DL, hDL⟩ := Mem.get [] (A := ShA p S) M4.out
        obtain ⟨hok1, hok2⟩ := lives_ok HSI.out HKL.out
        have HLV := Lib.hid (sh_lives_any hDL (by have := HSI.out.llen; omega) hok1 hok2)
        have hlen : S.lives.length ≤ 1000 := by have := HSI.out.llen; omega
        clear hDL hok1 hok2
        go_wp2_with fail
        refine HLV.out.mono ?_
        rintro e w5 ⟨lb, ld, X, rfl, hX, hm⟩
        have hXl : S.lives.length = X.length := by rw [← hX]; simp [lvE]
        have HX := Lib.hid hX
        have M5 : Hid (Mem w [] w5 ([RowA 41 12 lb S.lives.length ld (lqFlat X)] ++ ((X.map fun p => Le.row p.2) ++ [ShA p S, BlockA b5 #[.int .i64 xk, .int .i64 xt, .int .i64 xa, .int .i64 xs, .int .i64 xo, .string xy, .string xv, .int .i64 xm, .bool xb] 28]))) := Lib.hid (by
          have := M4.out.join hm
          simpa using this)
        clear hm hX HLV M4
        rw [hXl] at M5 hlen ⊢
        clear hXl
        have M5c : Hid (Mem w [] w5 ([RowA 41 12 lb X.length ld (lqFlat X)] ++ (X.map fun p => Le.row p.2) ++ ShA p S :: BlockA b5 #[.int .i64 xk, .int .i64 xt, .int .i64 xa, .int .i64 xs, .int .i64 xo, .string xy, .string xv, .int .i64 xm, .bool xb] 28 :: [])) := Lib.hid (by have := M5.out; simpa using this)
        have hq := (Mem.get (([RowA 41 12 lb X.length ld (lqFlat X)] ++ (X.map fun p => Le.row p.2)) ++ [ShA p S]) (A := BlockA b5 #[.int .i64 xk, .int .i64 xt, .int .i64 xa, .int .i64 xs, .int .i64 xo, .string xy, .string xv, .int .i64 xm, .bool xb] 28) (r := []) (by have := M5c.out; simpa using this)).choose_spec.2
        have hk1 := (cell_of_heap (i := 1) (v := .int .i64 xt) hq rfl).1
        have hk2a := (cell_of_heap (i := 2) (v := .int .i64 xa) hq rfl).1
        clear hq M5c
        go_wp2_with fail
        go_loopw [6, 7, 42] (fun v6 v7 jv wr => ∃ i : Nat, i ≤ X.length ∧ jv = .int .i64 (i : Nat) ∧ Hid (HSee (X.take i) xt xa v6 v7) ∧ Hid (Below w5.heap.size w5 wr)) (fun _ _ jv _ => X.length - (intOf jv).toNat)
        case atStart => exact ⟨0, Nat.zero_le _, rfl, Lib.hid (Or.inl ⟨rfl, rfl, fun q hq => by simp at hq⟩), Lib.hid (Below.refl _ _)⟩
        case round =>
          obtain ⟨w6, rfl⟩ : ∃ w6, w6 = wr := ⟨_, rfl⟩
          obtain ⟨i, hi, rfl, hSE, hB⟩ := hrel
          by_cases hlti : i < X.length
          · have M6 := Lib.hid (M5.out.below hB.out)
            obtain ⟨gl, hgl, hlq⟩ := lqAt_row (Mem.rowAt [] (r := (X.map fun p => Le.row p.2) ++ [ShA p S, BlockA b5 #[.int .i64 xk, .int .i64 xt, .int .i64 xa, .int .i64 xs, .int .i64 xo, .string xy, .string xv, .int .i64 xm, .bool xb] 28]) M6.out) i hlti
            subst hgl
            have HSK := Lib.hid (hSE.out.skip hlti)
            have HHT := Lib.hid (HSee.hit (tx := xt) (att := xa) hlti)
            generalize X[i] = z at *
            obtain ⟨vtx, ⟨vat, ⟨vk, vct, vca, vst, vop, vky, vvl, vmo, vys⟩, va, vn, vc, vws⟩⟩ := z
            simp only [lqAt] at hlq HSK HHT
            obtain ⟨y0, y1, y2, y3, y4, y5, y6, y7, y8, y9, y10, y11⟩ := hlq
            have hk1w := (hB.out.cell (World.block_lt_of_cell? w5 _ hk1)).trans hk1
            have hk2w := (hB.out.cell (World.block_lt_of_cell? w5 _ hk2a)).trans hk2a
            have hk1x := ((bel_new w6 (.cells #[.int .i64 vtx, .int .i64 vat, .int .i64 vk, .int .i64 vct, .int .i64 vca, .int .i64 vst, .int .i64 vop, .string vky, .string vvl, .int .i64 vmo, .bool vys, .slice va vn vc] 41)).cell (World.block_lt_of_cell? w6 _ hk1w)).trans hk1w
            have hk2x := ((bel_new w6 (.cells #[.int .i64 vtx, .int .i64 vat, .int .i64 vk, .int .i64 vct, .int .i64 vca, .int .i64 vst, .int .i64 vop, .string vky, .string vvl, .int .i64 vmo, .bool vys, .slice va vn vc] 41)).cell (World.block_lt_of_cell? w6 _ hk2w)).trans hk2w
            have HF := Lib.hid (bel_one hB.out (.cells #[.int .i64 vtx, .int .i64 vat, .int .i64 vk, .int .i64 vct, .int .i64 vca, .int .i64 vst, .int .i64 vop, .string vky, .string vvl, .int .i64 vmo, .bool vys, .slice va vn vc] 41))
            clear M6 hB hSE
            cases hq1 : (vtx == xt) with
            | false =>
              have HS2 := Lib.hid (HSK.out (fun h => by rw [h.1] at hq1; simp at hq1))
              clear HSK HHT
              go_wp2_with fail
              go_roundw
              case rel => exact ⟨i + 1, by omega, by go_num, HS2, HF⟩
              case measure => simp [intOf]; omega
            | true =>
              cases hq2 : (vat == xa) with
              | false =>
                have HS2 := Lib.hid (HSK.out (fun h => by rw [h.2] at hq2; simp at hq2))
                clear HSK HHT
                go_wp2_with fail
                go_roundw
                case rel => exact ⟨i + 1, by omega, by go_num, HS2, HF⟩
                case measure => simp [intOf]; omega
              | true =>
                have HS2 := Lib.hid (HHT.out ⟨by simpa using hq1, by simpa using hq2⟩)
                clear HSK HHT
                go_wp2_with fail
                go_roundw
                case rel => exact ⟨i + 1, by omega, by go_num, HS2, HF⟩
                case measure => simp [intOf]; omega
          · obtain rfl : i = X.length := by omega
            have hfin := hSE.out
            rw [List.take_length] at hfin
            obtain ⟨wa, wn, wcp, rfl, rfl, hm6⟩ := HSee.fin (c := ⟨xk, xt, xa, xs, xo, xy, xv, xm, xb⟩) HSI.out.lrise HX.out hfin (M5.out.below hB.out)
            have HML := Lib.hid (HSI.out.ofLive xt)
            have hwl : (hidW S ⟨xk, xt, xa, xs, xo, xy, xv, xm, xb⟩).2.length ≤ 900 := by
              unfold hidW
              split
              · exact Nat.le_trans (wok_len HML.out.sort fun x hx => (HML.out.ws x hx).1) HKL.out
              · exact Nat.zero_le _
            clear hfin hSE hB M5 hk1 hk2a HX HML hlen
            have M6 := Lib.hid hm6
            clear hm6
            generalize hHW : hidW S ⟨xk, xt, xa, xs, xo, xy, xv, xm, xb⟩ = hw at *
            obtain ⟨hb, ws⟩ := hw
            simp only at M6 HWANT HGROW HCOMB hwl ⊢
            have hwn : wn = ws.length := by have := (Mem.rowAt [ShA p S, BlockA b5 #[.int .i64 xk, .int .i64 xt, .int .i64 xa, .int .i64 xs, .int .i64 xo, .string xy, .string xv, .int .i64 xm, .bool xb] 28] (r := []) M6.out).len; rw [wrFlat_len] at this; omega
            subst hwn
            clear hHW
            obtain ⟨DM, hDM⟩ := Mem.get [] (A := ShA p S) (r := [BlockA b5 #[.int .i64 xk, .int .i64 xt, .int .i64 xa, .int .i64 xs, .int .i64 xo, .string xy, .string xv, .int .i64 xm, .bool xb] 28, RowA 43 3 wa ws.length wcp (wrFlat ws)]) M6.out
            have HMV := Lib.hid (sh_moment hDM)
            clear hDM
            go_wp2_with fail
            refine HMV.out.mono ?_
            rintro e w7 ⟨rfl, rfl⟩
            clear HMV
            have M7 : Hid (Mem w [] w6 (RowA 43 3 none 0 0 (wrFlat (wasM S (l.take 0))) :: ShA p S :: BlockA b5 #[.int .i64 xk, .int .i64 xt, .int .i64 xa, .int .i64 xs, .int .i64 xo, .string xy, .string xv, .int .i64 xm, .bool xb] 28 :: [RowA 43 3 wa ws.length wcp (wrFlat ws)])) := Lib.hid (M6.out.new (Below.refl _ _) (As := [RowA 43 3 none 0 0 (wrFlat [])]) (D' := []) (all_one ⟨rfl, Row.nil _ _ _⟩) (by simp))
            clear M6
            go_wp2_with fail
            go_loopw [11, 65] (fun v jv wr => ∃ i : Nat, i ≤ n ∧ jv = .int .i64 (i : Nat) ∧ Hid (∃ ba bc, v = .slice ba i bc ∧ Mem w [] wr (RowA 43 3 ba i bc (wrFlat (wasM S (l.take i))) :: ShA p S :: BlockA b5 #[.int .i64 xk, .int .i64 xt, .int .i64 xa, .int .i64 xs, .int .i64 xo, .string xy, .string xv, .int .i64 xm, .bool xb] 28 :: [RowA 43 3 wa ws.length wcp (wrFlat ws)]))) (fun _ jv _ => n - (intOf jv).toNat)
            case atStart => exact ⟨0, Nat.zero_le _, rfl, Lib.hid ⟨none, 0, rfl, M7.out⟩⟩
            case round =>
              obtain ⟨w8, rfl⟩ : ∃ w8, w8 = wr := ⟨_, rfl⟩
              obtain ⟨i, hi, rfl, hS⟩ := hrel
              clear M7
              obtain ⟨ba, bc, rfl, hm⟩ := hS.out
              clear hS
              by_cases hlti : i < n
              · have hi2 : i < l.length := by rw [← HNL.out]; exact hlti
                obtain ⟨g', off', e, ⟨hx0, hx1, hx2, hx3, hx4, hx5, hx6, hx7, hx8⟩, -, hz1', -⟩ := (HA.out.below hm.bel).at hi2
                simp only [Option.some.injEq, Addr.mk.injEq, and_true] at e
                obtain ⟨rfl, rfl⟩ := e
                have hwx : wasM S (l.take (i + 1)) = wasM S (l.take i) ++ [wasW S l[i].key] := by
                  unfold wasM
                  rw [List.take_succ_eq_append_getElem hi2, List.map_append]
                  rfl
                have HWX := Lib.hid hwx
                clear hwx
                generalize l[i] = y at *
                obtain ⟨yk, yt, ya, ys, yo, yy, yv, ym, yb⟩ := y
                simp only at hx0 hx1 hx2 hx3 hx4 hx5 hx6 hx7 hx8 hz1' HWX
                have hbn := bel_new w8 (.cells #[.int .i64 yk, .int .i64 yt, .int .i64 ya, .int .i64 ys, .int .i64 yo, .string yy, .string yv, .int .i64 ym, .bool yb] 28)
                have M9 := Lib.hid (hm.below hbn)
                have hq := heap_new w8 (.cells #[.int .i64 yk, .int .i64 yt, .int .i64 ya, .int .i64 ys, .int .i64 yo, .string yy, .string yv, .int .i64 ym, .bool yb] 28)
                clear hm
                go_upto_region 22 with (fail)
                obtain ⟨w9, hw9⟩ : ∃ w9, w9 = w8.alloc (.cells #[.int .i64 yk, .int .i64 yt, .int .i64 ya, .int .i64 ys, .int .i64 yo, .string yy, .string yv, .int .i64 ym, .bool yb] 28) := ⟨_, rfl⟩
                rw [← hw9] at M9 hq ⊢
                clear hw9 hbn hx0 hx1 hx2 hx3 hx4 hx5 hx6 hx7 hx8
                generalize w8.heap.size = b13 at *
                have hy5 := (cell_of_heap (i := 5) (v := .string yy) hq rfl).1
                clear hq
                obtain ⟨DV, hDV⟩ := Mem.get [RowA 43 3 ba i bc (wrFlat (wasM S (l.take i)))] (A := ShA p S) (r := [BlockA b5 #[.int .i64 xk, .int .i64 xt, .int .i64 xa, .int .i64 xs, .int .i64 xo, .string xy, .string xv, .int .i64 xm, .bool xb] 28, RowA 43 3 wa ws.length wcp (wrFlat ws)]) M9.out
                have HV := Lib.hid (sh_value hDV (HSI.out.cells.ok (by have := HKL.out; omega) (by omega)) yy hz1')
                clear hDV
                have HWV : Hid (wasW S yy = ⟨yy, (valM (versM S.cells yy) 1099511627776).1, (valM (versM S.cells yy) 1099511627776).2⟩) := Lib.hid rfl
                generalize valM (versM S.cells yy) 1099511627776 = vv at *
                obtain ⟨v1, v2⟩ := vv
                go_wp2_with fail
                refine HV.out.mono ?_
                rintro e w10 ⟨rfl, hb10⟩
                have hy5w := (hb10.cell (World.block_lt_of_cell? w9 _ hy5)).trans hy5
                obtain ⟨b4, d4, w11, hrun, hn11⟩ := Mem.app1 (P := Tryz.prog) (t := 39) (ty := 39) [] (r := [ShA p S, BlockA b5 #[.int .i64 xk, .int .i64 xt, .int .i64 xa, .int .i64 xs, .int .i64 xo, .string xy, .string xv, .int .i64 xm, .bool xb] 28, RowA 43 3 wa ws.length wcp (wrFlat ws)]) Tryz.underlying39 cloW_info (by rfl) (by decide) (M9.out.below hb10) [.string yy, .string v1, .bool v2] (by rfl) (by simp [Value.oneCell']) (by omega) (by decide)
                have HRUN := Lib.hid hrun
                have HF : Hid (Mem w [] w11 (RowA 43 3 b4 (i + 1) d4 (wrFlat (wasM S (l.take (i + 1)))) :: ShA p S :: BlockA b5 #[.int .i64 xk, .int .i64 xt, .int .i64 xa, .int .i64 xs, .int .i64 xo, .string xy, .string xv, .int .i64 xm, .bool xb] 28 :: [RowA 43 3 wa ws.length wcp (wrFlat ws)])) := Lib.hid (by
                  rw [HWX.out, wrFlat_append, HWV.out]
                  exact hn11)
                clear hrun hn11 hb10 M9 HV hy5 HWX HWV
                go_wp2_with ((at_builtin; refine wpList_appendR _ rfl (.tmp 76) (.tmp 82) 39 39 rfl (.slice ba i bc) (.slice (some ⟨w10.heap.size, 0, none⟩) 1 1) rfl rfl HRUN.out ?_))
                go_roundw
                case rel => exact ⟨i + 1, by omega, by go_num, Lib.hid ⟨b4, d4, rfl, HF.out⟩⟩
                case measure => simp [intOf]; omega
              · obtain rfl : i = n := by omega
                have htl : l.take i = l := by rw [HNL.out, List.take_length]
                rw [htl] at hm
                clear htl
                have M11 := Lib.hid (Mem.swap [] hm)
                clear hm
                obtain ⟨⟨⟨q0, q1, q2, q3⟩, S'⟩, hdo⟩ : ∃ pp, pp = doM S ⟨xk, xt, xa, xs, xo, xy, xv, xm, xb⟩ := ⟨_, rfl⟩
                have HDO := Lib.hid (sdo_mem M11.out ⟨xk, xt, xa, xs, xo, xy, xv, xm, xb⟩ ht hz1 hz2 K k HSI.out (by omega) HKL.out hdo.symm)
                rw [← hdo] at HSI2 HNO2 HMO2 HWANT HGROW HCOMB
                clear hdo
                simp only [Cm.val, Rp.val] at HDO HSI2 HNO2 HMO2 HWANT HGROW HCOMB
                have hq := Mem.blk M11.out (g := b5) (cur := #[.int .i64 xk, .int .i64 xt, .int .i64 xa, .int .i64 xs, .int .i64 xo, .string xy, .string xv, .int .i64 xm, .bool xb]) (T := 28) (by simp)
                have hk0 := (cell_of_heap (i := 0) (v := .int .i64 xk) hq rfl).1
                have hk1 := (cell_of_heap (i := 1) (v := .int .i64 xt) hq rfl).1
                have hk2 := (cell_of_heap (i := 2) (v := .int .i64 xa) hq rfl).1
                have hk3 := (cell_of_heap (i := 3) (v := .int .i64 xs) hq rfl).1
                have hk4 := (cell_of_heap (i := 4) (v := .int .i64 xo) hq rfl).1
                have hk5 := (cell_of_heap (i := 5) (v := .string xy) hq rfl).1
                have hk6 := (cell_of_heap (i := 6) (v := .string xv) hq rfl).1
                have hk7 := (cell_of_heap (i := 7) (v := .int .i64 xm) hq rfl).1
                have hk8 := (cell_of_heap (i := 8) (v := .bool xb) hq rfl).1
                clear hq M11 HSI
                go_wp2_with fail
                refine HDO.out.mono ?_
                rintro e w12 ⟨rfl, hm⟩
                have M12 := Lib.hid (hm.block #[.int .i64 q0, .int .i64 q1, .string q2, .bool q3] 35)
                clear hm HDO hk0 hk1 hk2 hk3 hk4 hk5 hk6 hk7 hk8
                go_upto_region 26 with (fail)
                obtain ⟨w13, hw13⟩ : ∃ w13, w13 = w12.alloc (.cells #[.int .i64 q0, .int .i64 q1, .string q2, .bool q3] 35) := ⟨_, rfl⟩
                rw [← hw13] at M12 ⊢
                clear hw13
                generalize w12.heap.size = b16 at *
                have hq := Mem.blk M12.out (g := b5) (cur := #[.int .i64 xk, .int .i64 xt, .int .i64 xa, .int .i64 xs, .int .i64 xo, .string xy, .string xv, .int .i64 xm, .bool xb]) (T := 28) (by simp)
                have hk0 := (cell_of_heap (i := 0) (v := .int .i64 xk) hq rfl).1
                have hk8 := (cell_of_heap (i := 8) (v := .bool xb) hq rfl).1
                have hq2 := Mem.blk M12.out (g := b16) (cur := #[.int .i64 q0, .int .i64 q1, .string q2, .bool q3]) (T := 35) (by simp)
                have hr0 := (cell_of_heap (i := 0) (v := .int .i64 q0) hq2 rfl).1
                clear hq hq2
                generalize comB S ⟨xk, xt, xa, xs, xo, xy, xv, xm, xb⟩ = com at *
                go_cut [17] from 88 to 102 (fun v wx => v = .bool com ∧ wx = w13)
                case first =>
                  have hcm := HCOMB.out
                  clear HCOMB HWANT HGROW
                  cases hk7 : (xk == 7) with
                  | false =>
                    rw [hk7] at hcm
                    simp only [Bool.false_and] at hcm
                    subst hcm
                    go_wp2_with fail
                    go_meet
                    case rel => exact ⟨rfl, rfl⟩
                  | true =>
                    rw [hk7] at hcm
                    cases xb with
                    | false =>
                      simp only [Bool.and_false, Bool.false_and] at hcm
                      subst hcm
                      go_wp2_with fail
                      go_meet
                      case rel => exact ⟨rfl, rfl⟩
                    | true =>
                      cases hb with
                      | false =>
                        simp only [Bool.and_false, Bool.false_and] at hcm
                        subst hcm
                        go_wp2_with fail
                        go_meet
                        case rel => exact ⟨rfl, rfl⟩
                      | true =>
                        cases hq0 : (q0 == 0) with
                        | false =>
                          rw [hq0] at hcm
                          simp only [Bool.and_false] at hcm
                          subst hcm
                          go_wp2_with fail
                          go_meet
                          case rel => exact ⟨rfl, rfl⟩
                        | true =>
                          rw [hq0] at hcm
                          simp only [Bool.and_true] at hcm
                          subst hcm
                          go_wp2_with fail
                          go_meet
                          case rel => exact ⟨rfl, rfl⟩
                case rest =>
                  obtain ⟨rfl, rfl⟩ := hcut
                  clear hk0 hk8 hr0 HCOMB
                  have M13 : Hid (Mem w [] wc [ShA p S', RowA 43 3 ba i bc (wrFlat (wasM S l)), RowA 43 3 wa ws.length wcp (wrFlat ws)]) := Lib.hid (Mem.drop [ShA p S', RowA 43 3 ba i bc (wrFlat (wasM S l))] (A := BlockA b5 #[.int .i64 xk, .int .i64 xt, .int .i64 xa, .int .i64 xs, .int .i64 xo, .string xy, .string xv, .int .i64 xm, .bool xb] 28) (r := [RowA 43 3 wa ws.length wcp (wrFlat ws)]) (Mem.drop [] (A := BlockA b16 #[.int .i64 q0, .int .i64 q1, .string q2, .bool q3] 35) (r := [ShA p S', RowA 43 3 ba i bc (wrFlat (wasM S l)), BlockA b5 #[.int .i64 xk, .int .i64 xt, .int .i64 xa, .int .i64 xs, .int .i64 xo, .string xy, .string xv, .int .i64 xm, .bool xb] 28, RowA 43 3 wa ws.length wcp (wrFlat ws)]) M12.out))
                  clear M12
                  have hwal : (wasM S l).length = i := by unfold wasM; rw [List.length_map, HNL.out]
                  go_wp2_with fail
                  go_loopw [105] (fun jv wr => ∃ t : Nat, t ≤ i ∧ jv = .int .i64 (t : Nat) ∧ Hid (Mem w [] wr [ShA p S', RowA 43 3 ba i bc (wrFlat (wasM S l)), RowA 43 3 wa ws.length wcp (wrFlat ws)])) (fun jv _ => i - (intOf jv).toNat)
                  case atStart => exact ⟨0, Nat.zero_le _, rfl, M13⟩
                  case round =>
                    obtain ⟨w14, rfl⟩ : ∃ w14, w14 = wr := ⟨_, rfl⟩
                    obtain ⟨t, hti, rfl, hS⟩ := hrel
                    clear M13
                    by_cases hltt : t < i
                    · have ht2 : t < (wasM S l).length := by omega
                      have ht3 : t < l.length := by rw [← HNL.out]; exact hltt
                      obtain ⟨gw, hgw, u0, u1, u2⟩ := wrAt_row (Mem.rowAt [ShA p S'] (r := [RowA 43 3 wa ws.length wcp (wrFlat ws)]) hS.out) t ht2
                      subst hgw
                      have hwt : (wasM S l)[t] = wasW S l[t].key := List.getElem_map _
                      rw [hwt] at u0 u1 u2
                      obtain ⟨-, -, -, -, -, hkz, -⟩ := HA.out.at ht3
                      obtain ⟨hw1, hw2⟩ := HWANT.out l[t].key
                      have hkz : l[t].key.size ≤ maxLen := by
                        obtain ⟨g', off', -, -, -, h1, -⟩ := HA.out.at ht3
                        exact h1
                      have hkk : (wasW S l[t].key).key = l[t].key := rfl
                      clear hwt
                      generalize wasW S l[t].key = y at *
                      rw [← hkk] at hw1 hw2 hkz
                      clear hkk
                      obtain ⟨yk, y1, y2⟩ := y
                      simp only at u0 u1 u2 hw1 hw2 hkz
                      have HW1 := Lib.hid hw1
                      have HW2 := Lib.hid hw2
                      have M15 := Lib.hid ((hS.out.block (Wr.arr ⟨yk, y1, y2⟩) 43).block (Wr.arr ⟨yk, y1, y2⟩) 43)
                      clear hw1 hw2 hS
                      go_upto_region 31 with (fail)
                      obtain ⟨w15, hw15⟩ : ∃ w15, w15 = (w14.alloc (.cells #[.string yk, .string y1, .bool y2] 43)).alloc (.cells #[.string yk, .string y1, .bool y2] 43) := ⟨_, rfl⟩
                      rw [show (w14.alloc (.cells (Wr.arr ⟨yk, y1, y2⟩) 43)).heap.size = w14.heap.size + 1 by simp] at M15
                      try simp only at M15
                      rw [← hw15] at M15 ⊢
                      clear hw15 u0 u1 u2
                      generalize w14.heap.size = b19 at *
                      have M16 : Hid (Mem w [] w15 (BlockA (b19 + 1) (Wr.arr (wantM com ⟨yk, y1, y2⟩ (ws.take 0))) 43 :: BlockA b19 #[.string yk, .string y1, .bool y2] 43 :: ShA p S' :: RowA 43 3 (some ⟨gw, 0, none⟩) i bc (wrFlat (wasM S l)) :: [RowA 43 3 wa ws.length wcp (wrFlat ws)])) := M15
                      clear M15
                      go_wp2_with fail
                      go_loopw [112] (fun jv wr => ∃ j : Nat, j ≤ ws.length ∧ jv = .int .i64 (j : Nat) ∧ Hid (Mem w [] wr (BlockA (b19 + 1) (Wr.arr (wantM com ⟨yk, y1, y2⟩ (ws.take j))) 43 :: BlockA b19 #[.string yk, .string y1, .bool y2] 43 :: ShA p S' :: RowA 43 3 (some ⟨gw, 0, none⟩) i bc (wrFlat (wasM S l)) :: [RowA 43 3 wa ws.length wcp (wrFlat ws)]))) (fun jv _ => ws.length - (intOf jv).toNat)
                      case atStart => exact ⟨0, Nat.zero_le _, rfl, M16⟩
                      case round =>
                        obtain ⟨w16, rfl⟩ : ∃ w16, w16 = wr := ⟨_, rfl⟩
                        obtain ⟨j, hj, rfl, hS⟩ := hrel
                        clear M16
                        by_cases hltj : j < ws.length
                        · obtain ⟨gx, hgx, u0, u1, u2⟩ := wrAt_row (Mem.rowAt [BlockA (b19 + 1) (Wr.arr (wantM com ⟨yk, y1, y2⟩ (ws.take j))) 43, BlockA b19 #[.string yk, .string y1, .bool y2] 43, ShA p S', RowA 43 3 (some ⟨gw, 0, none⟩) i bc (wrFlat (wasM S l))] (r := []) hS.out) j hltj
                          subst hgx
                          have HNX := Lib.hid (wantM_next com ⟨yk, y1, y2⟩ ws hltj)
                          generalize ws[j] = x at *
                          obtain ⟨xk1, xv1, xh1⟩ := x
                          simp only at u0 u1 u2 HNX
                          generalize wantM com ⟨yk, y1, y2⟩ (ws.take j) = q at *
                          have M17 := Lib.hid (hS.out.block #[.string xk1, .string xv1, .bool xh1] 43)
                          clear hS
                          go_upto_region 34 with (fail)
                          obtain ⟨w17, hw17⟩ : ∃ w17, w17 = w16.alloc (.cells #[.string xk1, .string xv1, .bool xh1] 43) := ⟨_, rfl⟩
                          rw [← hw17] at M17 ⊢
                          clear hw17 u0 u1 u2
                          generalize w16.heap.size = b22 at *
                          have hqa := (Mem.get [] M17.out).choose_spec.2
                          have k0 := (cell_of_heap (i := 0) (v := .string xk1) hqa rfl).1
                          have k1 := (cell_of_heap (i := 1) (v := .string xv1) hqa rfl).1
                          have k2 := (cell_of_heap (i := 2) (v := .bool xh1) hqa rfl).1
                          have hqb := Mem.blk M17.out (g := b19) (cur := #[.string yk, .string y1, .bool y2]) (T := 43) (by simp)
                          have j0 := (cell_of_heap (i := 0) (v := .string yk) hqb rfl).1
                          have hqc := Mem.blk M17.out (g := b19 + 1) (cur := Wr.arr q) (T := 43) (by simp)
                          obtain ⟨p0, r0⟩ := cell_of_heap (i := 0) (v := .string q.key) hqc rfl
                          obtain ⟨p1, r1⟩ := cell_of_heap (i := 1) (v := .string q.v) hqc rfl
                          obtain ⟨p2, r2⟩ := cell_of_heap (i := 2) (v := .bool q.h) hqc rfl
                          clear hqa hqb hqc
                          have hskip : Hid ((com && decide (xk1 = yk)) = false → Mem w [] w17 (BlockA (b19 + 1) (Wr.arr (wantM com ⟨yk, y1, y2⟩ (ws.take (j + 1)))) 43 :: BlockA b19 #[.string yk, .string y1, .bool y2] 43 :: ShA p S' :: RowA 43 3 (some ⟨gw, 0, none⟩) i bc (wrFlat (wasM S l)) :: [RowA 43 3 (some ⟨gx, 0, none⟩) ws.length wcp (wrFlat ws)])) := Lib.hid fun h => by
                            rw [HNX.out, if_neg (by rw [h]; decide)]
                            exact Mem.drop [] M17.out
                          cases com with
                          | false =>
                            have HF := Lib.hid (hskip.out rfl)
                            clear hskip M17 HNX
                            go_wp2_with fail
                            go_roundw
                            case rel => exact ⟨j + 1, by omega, by go_num, HF⟩
                            case measure => simp [intOf]; omega
                          | true =>
                            by_cases hkx : xk1 = yk
                            · subst hkx
                              have h1 := Mem.setAt [BlockA b22 #[.string xk1, .string xv1, .bool xh1] 43] (i := 0) M17.out (.string xk1)
                              have h2 := Mem.setAt [BlockA b22 #[.string xk1, .string xv1, .bool xh1] 43] (i := 1) h1 (.string xv1)
                              have h3 := Mem.setAt [BlockA b22 #[.string xk1, .string xv1, .bool xh1] 43] (i := 2) h2 (.bool xh1)
                              have HF : Hid (Mem w [] _ (BlockA (b19 + 1) (Wr.arr (wantM true ⟨xk1, y1, y2⟩ (ws.take (j + 1)))) 43 :: BlockA b19 #[.string xk1, .string y1, .bool y2] 43 :: ShA p S' :: RowA 43 3 (some ⟨gw, 0, none⟩) i bc (wrFlat (wasM S l)) :: [RowA 43 3 (some ⟨gx, 0, none⟩) ws.length wcp (wrFlat ws)])) := Lib.hid (by
                                rw [HNX.out, if_pos (by simp)]
                                exact Mem.drop [] h3)
                              clear h1 h2 h3 hskip M17 HNX
                              go_wp2_with fail
                              go_roundw
                              case rel => exact ⟨j + 1, by omega, by go_num, HF⟩
                              case measure => simp [intOf]; omega
                            · have hkl : ¬ xk1.toList = yk.toList := fun h => hkx (toList_inj h)
                              have hkb : (xk1.toList == yk.toList) = false := by simpa using hkl
                              have hkd : decide (xk1.toList = yk.toList) = false := decide_eq_false hkl
                              have HF := Lib.hid (hskip.out (by simp [hkx]))
                              clear hskip M17 HNX
                              go_wp2_with fail
                              go_roundw
                              case rel => exact ⟨j + 1, by omega, by go_num, HF⟩
                              case measure => simp [intOf]; omega
                        · obtain rfl : j = ws.length := by omega
                          have hm := hS.out
                          rw [List.take_length] at hm
                          have HW1b := HW1.out
                          generalize wantM com ⟨yk, y1, y2⟩ ws = q at *
                          have M17 := Lib.hid hm
                          clear hm hS
                          obtain ⟨DV, hDV⟩ := Mem.get [BlockA (b19 + 1) (Wr.arr q) 43, BlockA b19 #[.string yk, .string y1, .bool y2] 43] (A := ShA p S') (r := RowA 43 3 (some ⟨gw, 0, none⟩) i bc (wrFlat (wasM S l)) :: [RowA 43 3 wa ws.length wcp (wrFlat ws)]) M17.out
                          have HV := Lib.hid (sh_value hDV (HSI2.out.cells.ok (by have := HKL.out; omega) (by omega)) yk hkz)
                          rw [HW1b] at HV
                          clear hDV HW1 HW1b
                          have hj0 := (cell_of_heap (i := 0) (v := .string yk) (Mem.blk M17.out (g := b19) (cur := #[.string yk, .string y1, .bool y2]) (T := 43) (by simp)) rfl).1
                          go_wp2_with fail
                          refine HV.out.mono ?_
                          rintro e w18 ⟨rfl, hb18⟩
                          have M18 := Lib.hid (M17.out.below hb18)
                          clear M17 HV hb18 hj0
                          have hqb := Mem.blk M18.out (g := b19) (cur := #[.string yk, .string y1, .bool y2]) (T := 43) (by simp)
                          have j0 := (cell_of_heap (i := 0) (v := .string yk) hqb rfl).1
                          have hqc := Mem.blk M18.out (g := b19 + 1) (cur := Wr.arr q) (T := 43) (by simp)
                          have p1 := (cell_of_heap (i := 1) (v := .string q.v) hqc rfl).1
                          have p2 := (cell_of_heap (i := 2) (v := .bool q.h) hqc rfl).1
                          clear hqb hqc
                          by_cases hmp : 0 < S.moment
                          · have hmd : decide (0 < S.moment) = true := decide_eq_true hmp
                            have hat : atM S'.cells yk S.moment = (y1, y2, 0) := by
                              unfold atM
                              rw [if_pos (by simp; omega), HW2.out]
                            obtain ⟨DV, hDV⟩ := Mem.get [BlockA (b19 + 1) (Wr.arr q) 43, BlockA b19 #[.string yk, .string y1, .bool y2] 43] (A := ShA p S') (r := RowA 43 3 (some ⟨gw, 0, none⟩) i bc (wrFlat (wasM S l)) :: [RowA 43 3 wa ws.length wcp (wrFlat ws)]) M18.out
                            have HV := Lib.hid (sh_at hDV (HSI2.out.cells.ok (by have := HKL.out; omega) (by omega)) yk S.moment hkz)
                            rw [hat] at HV
                            clear hDV hat HW2
                            go_wp2_with fail
                            refine HV.out.mono ?_
                            rintro e w19 ⟨rfl, hb19⟩
                            have M19 := Lib.hid (M18.out.below hb19)
                            clear M18 HV hb19 p1 p2 j0
                            have hqb := Mem.blk M19.out (g := b19) (cur := #[.string yk, .string y1, .bool y2]) (T := 43) (by simp)
                            have j1 := (cell_of_heap (i := 1) (v := .string y1) hqb rfl).1
                            have j2 := (cell_of_heap (i := 2) (v := .bool y2) hqb rfl).1
                            clear hqb
                            have HF := Lib.hid (Mem.drop [] (Mem.drop [] M19.out))
                            clear M19
                            go_wp2_with fail
                            go_roundw
                            case rel => exact ⟨t + 1, by omega, by go_num, HF⟩
                            case measure => simp [intOf]; omega
                          · have hmd : decide (0 < S.moment) = false := decide_eq_false hmp
                            have HF := Lib.hid (Mem.drop [] (Mem.drop [] M18.out))
                            clear M18 HW2
                            go_wp2_with fail
                            go_roundw
                            case rel => exact ⟨t + 1, by omega, by go_num, HF⟩
                            case measure => simp [intOf]; omega
                    · obtain rfl : t = i := by omega
                      obtain ⟨DM, hDM⟩ := Mem.get [] (A := ShA p S') (r := [RowA 43 3 ba t bc (wrFlat (wasM S l)), RowA 43 3 wa ws.length wcp (wrFlat ws)]) hS.out
                      have HMV := Lib.hid (sh_moment hDM)
                      have HFN : Hid (HHead w p K (k + 1) w14) := Lib.hid ⟨S', HSI2.out, HNO2.out, by have := HMO2.out; omega, Mem.cutEnd [ShA p S'] hS.out⟩
                      have hgr := HGROW.out
                      clear hS hDM HWANT HGROW
                      generalize S'.moment = mo' at *
                      cases com with
                      | false =>
                        simp only [Bool.false_and] at hgr
                        go_wp2_with fail
                        refine HMV.out.mono ?_
                        rintro e w20 ⟨rfl, rfl⟩
                        clear HMV
                        go_wp2_with fail
                        go_roundw
                        case rel => exact ⟨k + 1, by omega, by go_num, HFN⟩
                        case measure => simp [intOf]; omega
                      | true =>
                        simp only [Bool.true_and] at hgr
                        by_cases hwp : 0 < ws.length
                        · have hd1 : decide ((0 : Int) < (ws.length : Nat)) = true := decide_eq_true (by omega)
                          rw [decide_eq_true hwp] at hgr
                          have hd2 : decide (0 < ws.length) = true := decide_eq_true hwp
                          have hlt9 : S.moment < mo' := of_decide_eq_true hgr
                          have hle9 : ¬ mo' ≤ S.moment := by omega
                          have hled : decide (mo' ≤ S.moment) = false := decide_eq_false hle9
                          clear hwp
                          go_wp2_with fail
                          refine HMV.out.mono ?_
                          rintro e w20 ⟨rfl, rfl⟩
                          clear HMV
                          go_wp2_with fail
                          go_roundw
                          case rel => exact ⟨k + 1, by omega, by go_num, HFN⟩
                          case measure => simp [intOf]; omega
                        · have hd1 : decide ((0 : Int) < (ws.length : Nat)) = false := decide_eq_false (by omega)
                          rw [decide_eq_false hwp] at hgr
                          have hd2 : decide (0 < ws.length) = false := decide_eq_false hwp
                          have hge9 : mo' ≤ S.moment := by have := of_decide_eq_false hgr; omega
                          have hled : decide (mo' ≤ S.moment) = true := decide_eq_true hge9
                          clear hwp
                          go_wp2_with fail
                          refine HMV.out.mono ?_
                          rintro e w20 ⟨rfl, rfl⟩
                          clear HMV
                          go_wp2_with fail
                          go_roundw
                          case rel => exact ⟨k + 1, by omega, by go_num, HFN⟩
                          case measure => simp [intOf]; omega
      · obtain rfl : k = n := by omega
        have HB := Lib.hid hmem.bel
        clear hmem hsi hno
        go_wp2_with fail
        go_ret
        exact ⟨rfl, HB.out⟩
end Go.Proofs.YtmifgnibalbgjaaGreat
