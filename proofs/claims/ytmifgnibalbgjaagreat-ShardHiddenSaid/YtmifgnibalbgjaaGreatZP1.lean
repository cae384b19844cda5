/- ShardLocked walked. -/
import Derived.Test.YtmifgnibalbgjaaGreatZO6
import Derived.Deep.Cut
namespace Go.Proofs.YtmifgnibalbgjaaGreat
open Go.RowKit Go.Sort
/-- one that lives, told, read at a place. -/
def lqAt (W : World) (g o : Nat) (p : Int × Le) : Prop := W.cell? ⟨g, o, none⟩ = some (.int .i64 p.1) ∧ W.cell? ⟨g, o + 1, none⟩ = some (.int .i64 p.2.att) ∧ W.cell? ⟨g, o + 2, none⟩ = some (.int .i64 p.2.last.kind) ∧ W.cell? ⟨g, o + 3, none⟩ = some (.int .i64 p.2.last.tx) ∧ W.cell? ⟨g, o + 4, none⟩ = some (.int .i64 p.2.last.att) ∧ W.cell? ⟨g, o + 5, none⟩ = some (.int .i64 p.2.last.stamp) ∧ W.cell? ⟨g, o + 6, none⟩ = some (.int .i64 p.2.last.op) ∧ W.cell? ⟨g, o + 7, none⟩ = some (.string p.2.last.key) ∧ W.cell? ⟨g, o + 8, none⟩ = some (.string p.2.last.value) ∧ W.cell? ⟨g, o + 9, none⟩ = some (.int .i64 p.2.last.mode) ∧ W.cell? ⟨g, o + 10, none⟩ = some (.bool p.2.last.yes) ∧ W.cell? ⟨g, o + 11, none⟩ = some (.slice p.2.a p.2.n p.2.c)
theorem lqFlat_drop : ∀ (X : List (Int × Le)) (j : Nat), (lqFlat X).drop (j * 12) = lqFlat (X.drop j)
  | _, 0 => by simp
  | [], j + 1 => by simp [lqFlat]
  | p :: r, j + 1 => by
    rw [show (j + 1) * 12 = 12 + j * 12 by omega, ← List.drop_drop]
    show ((lqCells p ++ lqFlat r).drop 12).drop (j * 12) = _
    rw [List.drop_append_of_le_length (by simp)]
    simp [lqFlat_drop r j]
theorem lqAt_row {w : World} {a : Option Addr} {n c : Nat} {X : List (Int × Le)} (h : Row w 41 12 a n c (lqFlat X)) (j : Nat) (hj : j < X.length) : ∃ g, a = some ⟨g, 0, none⟩ ∧ lqAt w g (j * 12) X[j] := by
  have hl := lqFlat_len X
  have hg : ∀ i v, (lqCells X[j])[i]? = some v → (lqFlat X)[j * 12 + i]? = some v := fun i v hv => by
    rw [← List.getElem?_drop, lqFlat_drop, List.drop_eq_getElem_cons hj]
    show (lqCells X[j] ++ _)[i]? = some v
    rw [List.getElem?_append_left (List.getElem?_eq_some_iff.1 hv).1]
    exact hv
  obtain ⟨g, e, _⟩ := h.cellAt (j * 12) (by omega)
  have hc : ∀ i v, (lqCells X[j])[i]? = some v → w.cell? ⟨g, j * 12 + i, none⟩ = some v := fun i v hv => by
    obtain ⟨h1, h2⟩ := List.getElem?_eq_some_iff.1 (hg i v hv)
    obtain ⟨g', e', h3⟩ := h.cellAt (j * 12 + i) h1
    rw [e] at e'
    simp only [Option.some.injEq, Addr.mk.injEq, and_true] at e'
    subst e'
    rw [h3, h2]
  exact ⟨g, e, by simpa using hc 0 _ rfl, hc 1 _ rfl, hc 2 _ rfl, hc 3 _ rfl, hc 4 _ rfl, hc 5 _ rfl, hc 6 _ rfl, hc 7 _ rfl, hc 8 _ rfl, hc 9 _ rfl, hc 10 _ rfl, hc 11 _ rfl⟩
theorem lqAt.below {w w' : World} {g o : Nat} {p : Int × Le} (h : lqAt w g o p) (b : Below w.heap.size w w') : lqAt w' g o p := by
  have hk := fun {p : Addr} {v : Value} (hp : w.cell? p = some v) => (b.cell (World.block_lt_of_cell? w p hp)).trans hp
  obtain ⟨h0, h1, h2, h3, h4, h5, h6, h7, h8, h9, h10, h11⟩ := h
  exact ⟨hk h0, hk h1, hk h2, hk h3, hk h4, hk h5, hk h6, hk h7, hk h8, hk h9, hk h10, hk h11⟩
/-- those who live, told: what each of them wrote. -/
theorem lives_row {w0 W : World} {D0 : List Nat} {l : List Asn} [Stables l] {X : List (Int × Le)} {r : List Asn} [Stables r] (h : Mem w0 D0 W (l ++ ((X.map fun p => Le.row p.2) ++ r))) {j : Nat} (hj : j < X.length) : Row W 43 3 X[j].2.a X[j].2.n X[j].2.c (wrFlat X[j].2.ws) := by
  have e : (X.map fun p => Le.row p.2) = ((X.take j).map fun p => Le.row p.2) ++ Le.row X[j].2 :: ((X.drop (j + 1)).map fun p => Le.row p.2) := by
    conv => lhs; rw [← List.take_append_drop j X, List.drop_eq_getElem_cons hj]
    rw [List.map_append, List.map_cons]
  rw [e] at h
  exact Mem.rowAt (l ++ ((X.take j).map fun p => Le.row p.2)) (r := ((X.drop (j + 1)).map fun p => Le.row p.2) ++ r) (by simpa using h)
theorem sh_hold2 {g : Nat} {S : Sh} {w : World} {D : List Nat} (h : ShA g S w D) (ok : LOk S.locks) (hb : Sm 400 S.locks) (k : ByteArray) : Calls Tryz.prog 12 #[.pointer (some ⟨g, 0, none⟩), .string k] w fun e w' => ∃ a c, e = .returned (.slice a (lineL S.locks k).hs.length c) ∧ HdsAt w' a (lineL S.locks k).hs.length (lineL S.locks k).hs ∧ Below w.heap.size w w' :=
  (sh_holders h ok hb k).mono fun e w' ⟨s, he, hr, hb, _⟩ => by
    have h1 := HdsAt.row hr
    have h2 := h1.1
    obtain ⟨sa, sn, sc⟩ := s
    simp only at h2 h1
    subst h2
    exact ⟨sa, sc, he, h1, hb⟩
theorem Mem.dropRows {w0 W : World} {D0 : List Nat} {A B : Asn} [Stable A] [Stable B] {X : List (Int × Le)} (h : Mem w0 D0 W ([A] ++ ((X.map fun p => Le.row p.2) ++ [B]))) : Mem w0 D0 W [B] := by
  have h1 : Mem w0 D0 W ((A :: (X.map fun p => Le.row p.2)) ++ [B]) := by simpa using h
  obtain ⟨D, hA, hD⟩ := h1.out
  obtain ⟨D1, D2, rfl, -, -, h2⟩ := all_append (A :: (X.map fun p => Le.row p.2)) [B] hA
  exact ⟨D2, h2, hD.touch, fun x hx => hD.fresh x (List.mem_append_right _ hx)⟩
def LHead (w : World) (p : Nat) (K : List ByteArray) (k : Nat) (wr : World) : Prop := ∃ S, SInv K k S ∧ Mem w [] wr [ShA p S]
theorem lives_ok {K : List ByteArray} {n : Nat} {S : Sh} (h : SInv K n S) (hK : K.length ≤ 900) : (∀ q ∈ S.lives, i64 q.1) ∧ ∀ q ∈ S.lives, q.2.ws.length ≤ 1000 := by
  refine ⟨fun q hq => by have := h.ltx q hq; unfold i64; omega, fun q hq => ?_⟩
  have h1 := h.live q.1 q.2 (kGet_of_mem ordZ h.lrise hq)
  have h2 := wok_len h1.sort fun x hx => (h1.ws x hx).1
  omega
set_option maxRecDepth 100000 in
set_option maxHeartbeats 32000000 in
theorem locked_any (a : Option Addr) (n c : Nat) (l : List Cm) (w : World) (hn : n ≤ maxLen) (h : CmsAt w a n l) :
    Calls Tryz.prog 3 #[.slice a n c] w (fun e w' => e = .returned (.bool true) ∧ Below w.heap.size w w') := by
  have HA := Lib.hid h
  have HFX := Lib.hid fixed_any
  have HFW := Lib.hid fun W (hb : Below w.heap.size w W) => few_any a n c l W hn (h.below hb)
  have HNW := Lib.hid sh_new
  have HNL := Lib.hid h.1
  unfold maxLen at hn
  clear h
  go_enter Tryz.func3, Tryz.ntmps3
  go_wp2_with fail
  refine (HFX.out w).mono ?_
  rintro e w1 ⟨rfl, hb⟩
  have HB := Lib.hid hb
  clear hb
  go_wp2_with fail
  refine (HFW.out _ HB.out).mono ?_
  rintro e w2 ⟨rfl, hb⟩
  have HB2 := Lib.hid (HB.out.trans (hb.mono HB.out.size))
  clear hb HFX HFW HB
  cases hfw : fewC l with
  | false =>
    clear hfw
    go_wp2_with fail
    go_ret
    exact ⟨rfl, HB2.out⟩
  | true =>
    have hn80 : n ≤ 80 := by rw [HNL.out]; exact fewC_len hfw
    have HKL := Lib.hid (show (l.map (·.key)).length ≤ 900 by rw [List.length_map, ← HNL.out]; omega)
    have HKM := Lib.hid (fun (i : Nat) (hi : i < l.length) => (List.mem_map.2 ⟨l[i], List.getElem_mem hi, rfl⟩ : l[i].key ∈ l.map (·.key)))
    clear hfw
    generalize l.map (·.key) = K at *
    go_wp2_with fail
    refine (HNW.out w2).mono ?_
    rintro e w3 ⟨p, rfl, hm⟩
    have HI : Hid (LHead w p K 0 w3) := Lib.hid ⟨sh0, sinv0 K, ((Mem.nil w).below HB2.out).join hm⟩
    clear hm HB2 HNW
    go_wp2_with fail
    go_loopw [25] (fun j wr => ∃ k : Nat, k ≤ n ∧ j = .int .i64 k ∧ Hid (LHead w p K k wr)) (fun j _ => n - (intOf j).toNat)
    case atStart => exact ⟨0, Nat.zero_le _, rfl, HI⟩
    case round =>
      obtain ⟨W0, rfl⟩ : ∃ W0, W0 = wr := ⟨_, rfl⟩
      obtain ⟨k, hk, rfl, hS⟩ := hrel
      clear HI
      obtain ⟨S, hsi, hmem⟩ := hS.out
      clear hS
      by_cases hlt : k < n
      · have hk2 : k < l.length := by rw [← HNL.out]; exact hlt
        obtain ⟨g, off, rfl, ⟨hx0, hx1, hx2, hx3, hx4, hx5, hx6, hx7, hx8⟩, ht, hz1, hz2⟩ := (HA.out.below hmem.bel).at hk2
        have HKE := Lib.hid (HKM.out k hk2)
        generalize l[k] = x at *
        obtain ⟨xk, xt, xa, xs, xo, xy, xv, xm, xb⟩ := x
        simp only at hx0 hx1 hx2 hx3 hx4 hx5 hx6 hx7 hx8 ht hz1 hz2 HKE
        have HSI := Lib.hid hsi
        have HSI2 := Lib.hid (hsi.step ⟨xk, xt, xa, xs, xo, xy, xv, xm, xb⟩ HKE.out)
        have HLET := Lib.hid (locked_let hsi ⟨xk, xt, xa, xs, xo, xy, xv, xm, xb⟩)
        have M4 := Lib.hid (Mem.swap [] (r := []) (hmem.block #[.int .i64 xk, .int .i64 xt, .int .i64 xa, .int .i64 xs, .int .i64 xo, .string xy, .string xv, .int .i64 xm, .bool xb] 28))
        have hbz := bel_new W0 (.cells #[.int .i64 xk, .int .i64 xt, .int .i64 xa, .int .i64 xs, .int .i64 xo, .string xy, .string xv, .int .i64 xm, .bool xb] 28)
        clear hsi hmem HKM
        have hq := heap_new W0 (.cells #[.int .i64 xk, .int .i64 xt, .int .i64 xa, .int .i64 xs, .int .i64 xo, .string xy, .string xv, .int .i64 xm, .bool xb] 28)
        go_upto_region 10 with (fail)
        obtain ⟨w4, hw4⟩ : ∃ w4, w4 = W0.alloc (.cells #[.int .i64 xk, .int .i64 xt, .int .i64 xa, .int .i64 xs, .int .i64 xo, .string xy, .string xv, .int .i64 xm, .bool xb] 28) := ⟨_, rfl⟩
        rw [← hw4] at M4 hq hbz ⊢
        clear hw4 hx0 hx1 hx2 hx3 hx4 hx5 hx6 hx7 hx8 hbz
        generalize W0.heap.size = b5 at *
        have hk0 := (cell_of_heap (i := 0) (v := .int .i64 xk) hq rfl).1
        have hk1 := (cell_of_heap (i := 1) (v := .int .i64 xt) hq rfl).1
        have hk2 := (cell_of_heap (i := 2) (v := .int .i64 xa) hq rfl).1
        have hk3 := (cell_of_heap (i := 3) (v := .int .i64 xs) hq rfl).1
        have hk4 := (cell_of_heap (i := 4) (v := .int .i64 xo) hq rfl).1
        have hk5 := (cell_of_heap (i := 5) (v := .string xy) hq rfl).1
        have hk6 := (cell_of_heap (i := 6) (v := .string xv) hq rfl).1
        have hk7 := (cell_of_heap (i := 7) (v := .int .i64 xm) hq rfl).1
        have hk8 := (cell_of_heap (i := 8) (v := .bool xb) hq rfl).1
        clear hq
        obtain ⟨DH, hDH⟩ := Mem.get [] (A := ShA p S) M4.out
        have HHO := Lib.hid (sh_hold2 hDH HSI.out.locks (HSI.out.lsm.mono (by omega)) xy)
        clear hDH
        go_wp2_with fail
        refine HHO.out.mono ?_
        rintro e w5 ⟨ha, hc5, rfl, hr, hb⟩
        have HR := Lib.hid hr
        have M5 := Lib.hid (M4.out.below hb)
        clear hr hb HHO M4 hk0 hk1 hk2 hk3 hk4 hk5 hk6 hk7 hk8
        have hls : (lineL S.locks xy).hs.length ≤ 400 := by have := (HSI.out.lsm.mono (by omega : k ≤ 400)).line xy; omega
        generalize (lineL S.locks xy).hs = hs at *
        have hq := Mem.blk M5.out (g := b5) (cur := #[.int .i64 xk, .int .i64 xt, .int .i64 xa, .int .i64 xs, .int .i64 xo, .string xy, .string xv, .int .i64 xm, .bool xb]) (T := 28) (by simp)
        have hk1 := (cell_of_heap (i := 1) (v := .int .i64 xt) hq rfl).1
        clear hq
        go_wp2_with fail
        go_loopw [6, 7, 35] (fun v6 v7 jv wr => ∃ i : Nat, i ≤ hs.length ∧ jv = .int .i64 (i : Nat) ∧ v6 = .bool (seeH (hs.length : Int) xt (hs.take i)).1 ∧ v7 = .bool (seeH (hs.length : Int) xt (hs.take i)).2 ∧ Hid (Below w5.heap.size w5 wr)) (fun _ _ jv _ => hs.length - (intOf jv).toNat)
        case atStart => exact ⟨0, Nat.zero_le _, rfl, by simp [seeH], by simp [seeH], Lib.hid (Below.refl _ _)⟩
        case round =>
          obtain ⟨w6, rfl⟩ : ∃ w6, w6 = wr := ⟨_, rfl⟩
          obtain ⟨i, hi, rfl, rfl, rfl, hS⟩ := hrel
          by_cases hlti : i < hs.length
          · obtain ⟨gq, oq, rfl, hcz⟩ := (HR.out.below hS.out).2 i hlti
            obtain ⟨z0, z1⟩ := hcz
            have hk1w := (hS.out.cell (World.block_lt_of_cell? w5 _ hk1)).trans hk1
            have hsn : seeH (hs.length : Int) xt (hs.take (i + 1)) = if hs[i].owner = xt then (true, hs[i].mode == 2 && (hs.length : Int) == 1) else seeH (hs.length : Int) xt (hs.take i) := by
              rw [List.take_succ_eq_append_getElem hlti, seeH_snoc]
            have HSN := Lib.hid hsn
            clear hsn
            generalize hs[i] = z at *
            obtain ⟨zo, zm⟩ := z
            simp only at z0 z1 HSN
            have hk1a := ((bel_new w6 (.cells #[.int .i64 zo, .int .i64 zm] 32)).cell (World.block_lt_of_cell? w6 _ hk1w)).trans hk1w
            have HF := Lib.hid (bel_one hS.out (.cells #[.int .i64 zo, .int .i64 zm] 32))
            generalize seeH (hs.length : Int) xt (hs.take i) = sv at *
            cases hqz : (zo == xt) with
            | false =>
              have he : Hid (seeH (hs.length : Int) xt (hs.take (i + 1)) = sv) := Lib.hid (by rw [HSN.out, if_neg (by simpa using hqz)])
              clear HSN
              go_wp2_with fail
              go_roundw
              case rel => exact ⟨i + 1, by omega, by go_num, by rw [he.out], by rw [he.out], HF⟩
              case measure => simp [intOf]; omega
            | true =>
              have he : Hid (seeH (hs.length : Int) xt (hs.take (i + 1)) = (true, zm == 2 && (hs.length : Int) == 1)) := Lib.hid (by rw [HSN.out, if_pos (by simpa using hqz)])
              clear HSN
              cases hmz : (zm == 2) with
              | false =>
                have he2 : Hid (seeH (hs.length : Int) xt (hs.take (i + 1)) = (true, false)) := Lib.hid (by rw [he.out, hmz]; rfl)
                clear he
                go_wp2_with fail
                go_roundw
                case rel => exact ⟨i + 1, by omega, by go_num, by rw [he2.out], by rw [he2.out], HF⟩
                case measure => simp [intOf]; omega
              | true =>
                have he2 : Hid (seeH (hs.length : Int) xt (hs.take (i + 1)) = (true, (hs.length : Int) == 1)) := Lib.hid (by rw [he.out, hmz]; rfl)
                clear he
                go_wp2_with fail
                go_roundw
                case rel => exact ⟨i + 1, by omega, by go_num, by rw [he2.out], by rw [he2.out], HF⟩
                case measure => simp [intOf]; omega
          · obtain rfl : i = hs.length := by omega
            rw [List.take_length] at *
            have M6 := Lib.hid (M5.out.below hS.out)
            clear hS HR M5 hk1
            generalize seeH (hs.length : Int) xt hs = sv at *
            obtain ⟨sv1, sv2⟩ := sv
            obtain ⟨⟨⟨q0, q1, q2, q3⟩, S'⟩, hdo⟩ : ∃ pp, pp = doM S ⟨xk, xt, xa, xs, xo, xy, xv, xm, xb⟩ := ⟨_, rfl⟩
            have HDO := Lib.hid (sdo_mem M6.out ⟨xk, xt, xa, xs, xo, xy, xv, xm, xb⟩ ht hz1 hz2 K k HSI.out (by omega) HKL.out hdo.symm)
            rw [← hdo] at HLET HSI2
            clear hdo
            simp only [Cm.val, Rp.val] at HDO HLET HSI2
            have hq := Mem.blk M6.out (g := b5) (cur := #[.int .i64 xk, .int .i64 xt, .int .i64 xa, .int .i64 xs, .int .i64 xo, .string xy, .string xv, .int .i64 xm, .bool xb]) (T := 28) (by simp)
            have hk0 := (cell_of_heap (i := 0) (v := .int .i64 xk) hq rfl).1
            have hk1 := (cell_of_heap (i := 1) (v := .int .i64 xt) hq rfl).1
            have hk2 := (cell_of_heap (i := 2) (v := .int .i64 xa) hq rfl).1
            have hk3 := (cell_of_heap (i := 3) (v := .int .i64 xs) hq rfl).1
            have hk4 := (cell_of_heap (i := 4) (v := .int .i64 xo) hq rfl).1
            have hk5 := (cell_of_heap (i := 5) (v := .string xy) hq rfl).1
            have hk6 := (cell_of_heap (i := 6) (v := .string xv) hq rfl).1
            have hk7 := (cell_of_heap (i := 7) (v := .int .i64 xm) hq rfl).1
            have hk8 := (cell_of_heap (i := 8) (v := .bool xb) hq rfl).1
            clear hq M6 HSI
            go_wp2_with fail
            refine HDO.out.mono ?_
            rintro e w7 ⟨rfl, hm⟩
            have M7 := Lib.hid (hm.block #[.int .i64 q0, .int .i64 q1, .string q2, .bool q3] 35)
            clear hm HDO hk0 hk1 hk2 hk3 hk4 hk5 hk6 hk7 hk8
            go_upto_region 18 with (fail)
            obtain ⟨w8, hw8⟩ : ∃ w8, w8 = w7.alloc (.cells #[.int .i64 q0, .int .i64 q1, .string q2, .bool q3] 35) := ⟨_, rfl⟩
            rw [← hw8] at M7 ⊢
            clear hw8
            generalize w7.heap.size = b11 at *
            have hq := Mem.blk M7.out (g := b5) (cur := #[.int .i64 xk, .int .i64 xt, .int .i64 xa, .int .i64 xs, .int .i64 xo, .string xy, .string xv, .int .i64 xm, .bool xb]) (T := 28) (by simp)
            have hk0 := (cell_of_heap (i := 0) (v := .int .i64 xk) hq rfl).1
            have hq2 := Mem.blk M7.out (g := b11) (cur := #[.int .i64 q0, .int .i64 q1, .string q2, .bool q3]) (T := 35) (by simp)
            have hr0 := (cell_of_heap (i := 0) (v := .int .i64 q0) hq2 rfl).1
            clear hq hq2
            go_cut [76] from 56 to 75 (fun v wx => v = .bool false ∧ wx = w8)
            case first =>
              by_cases hq0 : q0 = 0
              · obtain ⟨l3, l4⟩ := HLET.out hq0
                subst hq0
                by_cases h3 : xk = 3
                · subst h3
                  have l3' := l3 rfl
                  subst l3'
                  clear l3 l4 HLET
                  go_wp2_with fail
                  go_meet
                  case rel => exact ⟨rfl, rfl⟩
                · by_cases h4 : xk = 4
                  · subst h4
                    have l4' := l4 rfl
                    subst l4'
                    clear l3 l4 HLET
                    go_wp2_with fail
                    go_meet
                    case rel => exact ⟨rfl, rfl⟩
                  · have h3b : (xk == 3) = false := by simpa using h3
                    have h4b : (xk == 4) = false := by simpa using h4
                    clear l3 l4 HLET h3 h4
                    go_wp2_with fail
                    go_meet
                    case rel => exact ⟨rfl, rfl⟩
              · have hqb : (q0 == 0) = false := by simpa using hq0
                clear HLET hq0
                go_wp2_with fail
                go_meet
                case rel => exact ⟨rfl, rfl⟩
            case rest =>
              obtain ⟨rfl, rfl⟩ := hcut
              clear hk0 hr0 HLET
              have M8 : Hid (Mem w [] wc [ShA p S']) := Lib.hid (Mem.drop [ShA p S'] (A := BlockA b5 #[.int .i64 xk, .int .i64 xt, .int .i64 xa, .int .i64 xs, .int .i64 xo, .string xy, .string xv, .int .i64 xm, .bool xb] 28) (r := []) (Mem.drop [] (A := BlockA b11 #[.int .i64 q0, .int .i64 q1, .string q2, .bool q3] 35) (r := [ShA p S', BlockA b5 #[.int .i64 xk, .int .i64 xt, .int .i64 xa, .int .i64 xs, .int .i64 xo, .string xy, .string xv, .int .i64 xm, .bool xb] 28]) M7.out))
              clear M7
              obtain ⟨DL, hDL⟩ := Mem.get [] (A := ShA p S') (r := []) M8.out
              obtain ⟨hok1, hok2⟩ := lives_ok HSI2.out HKL.out
              have HLV := Lib.hid (sh_lives_any hDL (by have := HSI2.out.llen; omega) hok1 hok2)
              have hlen : S'.lives.length ≤ 1000 := by have := HSI2.out.llen; omega
              clear hDL hok1 hok2
              go_wp2_with fail
              refine HLV.out.mono ?_
              rintro e w9 ⟨lb, ld, X, rfl, hX, hm⟩
              have hXl : S'.lives.length = X.length := by rw [← hX]; simp [lvE]
              have HX := Lib.hid hX
              have M9 : Hid (Mem w [] w9 ([RowA 41 12 lb S'.lives.length ld (lqFlat X)] ++ ((X.map fun p => Le.row p.2) ++ [ShA p S']))) := Lib.hid (by
                have := M8.out.join hm
                simpa using this)
              clear hm hX HLV M8
              rw [hXl] at M9 hlen ⊢
              have HML := Lib.hid hXl
              clear hXl
              go_wp2_with fail
              go_loopw [80] (fun jv wr => ∃ j : Nat, j ≤ X.length ∧ jv = .int .i64 (j : Nat) ∧ Hid (Below w9.heap.size w9 wr)) (fun jv _ => X.length - (intOf jv).toNat)
              case atStart => exact ⟨0, Nat.zero_le _, rfl, Lib.hid (Below.refl _ _)⟩
              case round =>
                obtain ⟨w10, rfl⟩ : ∃ w10, w10 = wr := ⟨_, rfl⟩
                obtain ⟨j, hj, rfl, hB⟩ := hrel
                by_cases hltj : j < X.length
                · have M10 := Lib.hid (M9.out.below hB.out)
                  obtain ⟨gl, hgl, hlq⟩ := lqAt_row (Mem.rowAt [] (r := (X.map fun p => Le.row p.2) ++ [ShA p S']) M10.out) j hltj
                  subst hgl
                  have HRJ := Lib.hid (lives_row M10.out hltj)
                  have hXj : (X[j].1, X[j].2.lv) ∈ S'.lives := by rw [← HX.out]; exact List.mem_map.2 ⟨X[j], List.getElem_mem hltj, rfl⟩
                  have HXW := Lib.hid fun (wr1 : Wr) (hw1 : wr1 ∈ X[j].2.lv.ws) => locked_lives HSI2.out hXj hw1
                  have HWL := Lib.hid ((lives_ok HSI2.out HKL.out).2 _ hXj)
                  clear hXj
                  generalize X[j] = z at *
                  obtain ⟨vtx, ⟨vat, ⟨vk, vct, vca, vst, vop, vky, vvl, vmo, vys⟩, va, vn, vc, vws⟩⟩ := z
                  simp only [Le.lv, lqAt] at hlq HRJ HXW HWL
                  obtain ⟨y0, y1, y2, y3, y4, y5, y6, y7, y8, y9, y10, y11⟩ := hlq
                  have hvn : vn = vws.length := by have := HRJ.out.len; rw [wrFlat_len] at this; omega
                  subst hvn
                  have hwl := HWL.out
                  have hbx := bel_new w10 (.cells #[.int .i64 vtx, .int .i64 vat, .int .i64 vk, .int .i64 vct, .int .i64 vca, .int .i64 vst, .int .i64 vop, .string vky, .string vvl, .int .i64 vmo, .bool vys, .slice va vws.length vc] 41)
                  have hqx := heap_new w10 (.cells #[.int .i64 vtx, .int .i64 vat, .int .i64 vk, .int .i64 vct, .int .i64 vca, .int .i64 vst, .int .i64 vop, .string vky, .string vvl, .int .i64 vmo, .bool vys, .slice va vws.length vc] 41)
                  go_upto_region 23 with (fail)
                  obtain ⟨w11, hw11⟩ : ∃ w11, w11 = w10.alloc (.cells #[.int .i64 vtx, .int .i64 vat, .int .i64 vk, .int .i64 vct, .int .i64 vca, .int .i64 vst, .int .i64 vop, .string vky, .string vvl, .int .i64 vmo, .bool vys, .slice va vws.length vc] 41) := ⟨_, rfl⟩
                  rw [← hw11] at hqx hbx ⊢
                  clear hw11 y0 y1 y2 y3 y4 y5 y6 y7 y8 y9 y10 y11
                  have HRX := Lib.hid (HRJ.out.below hbx)
                  have HB11 := Lib.hid (hB.out.trans (hbx.mono hB.out.size))
                  clear hbx HRJ
                  generalize w10.heap.size = b13 at *
                  have hx11 := (cell_of_heap (i := 11) (v := .slice va vws.length vc) hqx rfl).1
                  have hx0 := (cell_of_heap (i := 0) (v := .int .i64 vtx) hqx rfl).1
                  clear hqx
                  go_wp2_with fail
                  clear hx11
                  go_loopw [87] (fun iv wr => ∃ i : Nat, i ≤ vws.length ∧ iv = .int .i64 (i : Nat) ∧ Hid (Below w11.heap.size w11 wr)) (fun iv _ => vws.length - (intOf iv).toNat)
                  case atStart => exact ⟨0, Nat.zero_le _, rfl, Lib.hid (Below.refl _ _)⟩
                  case round =>
                    obtain ⟨w12, rfl⟩ : ∃ w12, w12 = wr := ⟨_, rfl⟩
                    obtain ⟨i, hi, rfl, hBi⟩ := hrel
                    by_cases hlti : i < vws.length
                    · obtain ⟨gw, hgw, u0, u1, u2⟩ := wrAt_row (HRX.out.below hBi.out) i hlti
                      subst hgw
                      have hone := HXW.out _ (List.getElem_mem hlti)
                      generalize vws[i] = y at *
                      obtain ⟨yk, yv, yh⟩ := y
                      simp only at u0 u1 u2 hone
                      have HONE := Lib.hid hone
                      have hb13 := bel_new w12 (.cells #[.string yk, .string yv, .bool yh] 43)
                      have M13 := Lib.hid ((M9.out.below (HB11.out.trans (hBi.out.mono HB11.out.size))).below hb13)
                      have HB13 := Lib.hid (hBi.out.trans (hb13.mono hBi.out.size))
                      have hq15 := heap_new w12 (.cells #[.string yk, .string yv, .bool yh] 43)
                      clear hone hb13
                      go_upto_region 26 with (fail)
                      obtain ⟨w13, hw13⟩ : ∃ w13, w13 = w12.alloc (.cells #[.string yk, .string yv, .bool yh] 43) := ⟨_, rfl⟩
                      rw [← hw13] at M13 HB13 hq15 ⊢
                      clear hw13 u0 u1 u2
                      generalize w12.heap.size = b15 at *
                      have hy0 := (cell_of_heap (i := 0) (v := .string yk) hq15 rfl).1
                      clear hq15
                      obtain ⟨DQ, hDQ⟩ := Mem.get ([RowA 41 12 (some ⟨gl, 0, none⟩) X.length ld (lqFlat X)] ++ (X.map fun p => Le.row p.2)) (A := ShA p S') (r := []) (by simpa using M13.out)
                      have HHO := Lib.hid (sh_hold2 hDQ HSI2.out.locks (HSI2.out.lsm.mono (by omega)) yk)
                      rw [HONE.out] at HHO
                      simp only [List.length_cons, List.length_nil, Nat.zero_add] at HHO
                      clear hDQ M13
                      go_wp2_with fail
                      refine HHO.out.mono ?_
                      rintro e w14 ⟨hha, hhc, rfl, hHR, hb⟩
                      obtain ⟨gh, oh, hgh, p0, p1⟩ := hHR.2 0 (by simp)
                      subst hgh
                      simp only [List.getElem_cons_zero, Nat.zero_mul, Nat.add_zero] at p0 p1
                      have HB14 := Lib.hid (HB13.out.trans (hb.mono HB13.out.size))
                      have hx0w := (HB14.out.cell (World.block_lt_of_cell? w11 _ hx0)).trans hx0
                      clear hb hHR HHO hy0 HB13
                      go_wp2_with fail
                      go_quiet (fail)
                      have HBQ := Lib.hid (HB14.out.trans ((bel_drewN w14 nq).mono HB14.out.size))
                      generalize w14.drewN nq = w15 at *
                      clear p0 p1 hx0w HB14
                      go_wp2_with fail
                      go_roundw
                      case rel => exact ⟨i + 1, by omega, by go_num, HBQ⟩
                      case measure => simp [intOf]; omega
                    · obtain rfl : i = vws.length := by omega
                      have HF := Lib.hid (HB11.out.trans (hBi.out.mono HB11.out.size))
                      clear hBi
                      go_wp2_with fail
                      go_roundw
                      case rel => exact ⟨j + 1, by omega, by go_num, HF⟩
                      case measure => simp [intOf]; omega
                · obtain rfl : j = X.length := by omega
                  have HF : Hid (LHead w p K (k + 1) w10) := Lib.hid ⟨S', HSI2.out, Mem.dropRows (M9.out.below hB.out)⟩
                  clear hB M9
                  go_wp2_with fail
                  go_roundw
                  case rel => exact ⟨k + 1, by omega, by go_num, HF⟩
                  case measure => simp [intOf]; omega
      · obtain rfl : k = n := by omega
        have HB := Lib.hid hmem.bel
        clear hmem hsi
        go_wp2_with fail
        go_ret
        exact ⟨rfl, HB.out⟩
end Go.Proofs.YtmifgnibalbgjaaGreat
