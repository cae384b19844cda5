/- New, Lines of none, blocked. -/
import Derived.Test.YtmifgnibalbgjaaGreatZLR
namespace Go.Proofs.YtmifgnibalbgjaaGreat
open Go.RowKit
set_option maxRecDepth 100000 in
set_option maxHeartbeats 800000 in
theorem tab_new (w : World) : Calls Tryz.prog 32 #[] w fun e w' => ∃ p, e = .returned (.pointer (some ⟨p, 0, none⟩)) ∧ All [TabA p []] w' [p] ∧ (∀ x ∈ [p], w.heap.size ≤ x) ∧ Below w.heap.size w w' := by
  go_enter Tryz.func32, Tryz.ntmps32
  go_wp2_with fail
  go_ret
  refine ⟨w.heap.size, rfl, all_one ⟨none, 0, 0, [], rfl, [w.heap.size], [], by simp, by simp, ⟨rfl, heap_new w _⟩, [], [], rfl, by simp, ⟨rfl, Row.nil _ _ _⟩, rfl⟩, by simp, bel_new _ _⟩
/-- the owners in a list that clash with one that waits. -/
def blkH (l : List Hd) (x : Hd) : List Int := (l.filter fun h => !(h.owner == x.owner) && clashM h.mode x.mode).map (·.owner)
theorem blkH_next {l : List Hd} {x : Hd} {i : Nat} (h : i < l.length) : blkH (l.take (i + 1)) x = blkH (l.take i) x ++ (if (!(l[i].owner == x.owner) && clashM l[i].mode x.mode) = true then [l[i].owner] else []) := by
  unfold blkH
  rw [List.take_succ_eq_append_getElem h, List.filter_append, List.map_append]
  congr 1
  rw [List.filter_cons]
  split <;> simp
theorem blkH_len (l : List Hd) (x : Hd) : (blkH l x).length ≤ l.length := by
  unfold blkH; rw [List.length_map]; exact List.length_filter_le _ _
set_option maxRecDepth 100000 in
set_option maxHeartbeats 4000000 in
theorem blocked_any (a : Option Addr) (n c : Nat) (l : List Hd) (x : Hd) (w : World) (h : HdsAt w a n l) (hn : n ≤ 1000) :
    Calls Tryz.prog 117 #[.slice a n c, .agg #[.int .i64 x.owner, .int .i64 x.mode]] w fun e w' => ∃ b d, e = .returned (.slice b (blkH l x).length d) ∧ Row w' 3 1 b (blkH l x).length d (intsV (blkH l x)) ∧ Below w.heap.size w w' ∧ ∀ y ∈ blkOf b, w.heap.size ≤ y := by
  obtain rfl := h.1
  obtain ⟨xo, xm⟩ := x
  have HR := Lib.hid (h.below (bel_new w (.cells #[.int .i64 xo, .int .i64 xm] 32)))
  have HX := Lib.hid (hdAt_new w ⟨xo, xm⟩ 32)
  have hB0 := Lib.hid (bel_new w (.cells #[.int .i64 xo, .int .i64 xm] 32))
  have hsz : (w.alloc (.cells #[.int .i64 xo, .int .i64 xm] 32)).heap.size = w.heap.size + 1 := by simp only [World.size_alloc]
  clear h
  simp only at HX
  go_enter Tryz.func117, Tryz.ntmps117
  go_wp2_with fail
  generalize hw0 : w.alloc (.cells #[.int .i64 xo, .int .i64 xm] 32) = w0 at *
  clear hw0
  have HSZ := Lib.hid hsz
  clear hsz
  go_loopw [5, 10] (fun v jv wr => ∃ i : Nat, i ≤ l.length ∧ jv = .int .i64 (i : Nat) ∧ Hid (NewRow 3 1 w0 (intsV (blkH (l.take i) ⟨xo, xm⟩)) (blkH (l.take i) ⟨xo, xm⟩).length v wr)) (fun _ jv _ => l.length - (intOf jv).toNat)
  case atStart => exact ⟨0, Nat.zero_le _, rfl, Lib.hid (NewRow.nil 3 1 w0)⟩
  case round =>
    obtain ⟨i, hi, rfl, hS⟩ := hrel
    obtain ⟨a5, c5, rfl, hr5, hb5, hf5⟩ := hS.out
    by_cases hlt : i < l.length
    · obtain ⟨g, off, rfl, hx⟩ := HR.out.2 i hlt
      obtain ⟨hc0, hc1⟩ := hx.below hb5
      obtain ⟨x0, x1⟩ := HX.out.below hb5
      have hnx := blkH_next (x := ⟨xo, xm⟩) hlt
      have HLN := Lib.hid (Nat.le_trans (blkH_len (l.take i) ⟨xo, xm⟩) (by rw [List.length_take]; omega : _ ≤ l.length))
      clear hx
      generalize l[i] = z at *
      obtain ⟨zo, zm⟩ := z
      simp only at hc0 hc1 x0 x1 hnx
      simp only [Nat.zero_add] at x0 x1
      have hx0a := fun oo => ((bel_new wr oo).cell (World.block_lt_of_cell? wr _ x0)).trans x0
      have hx1a := fun oo => ((bel_new wr oo).cell (World.block_lt_of_cell? wr _ x1)).trans x1
      have hS2 := Lib.hid (NewRow.below (w := w0) ⟨a5, c5, rfl, hr5, hb5, hf5⟩ (bel_new wr (.cells #[.int .i64 zo, .int .i64 zm] 32)))
      have HN := Lib.hid hnx
      clear hr5 hb5 hf5 hnx hS x0 x1
      cases hq : (zo == xo) with
      | true =>
        have he : Hid (blkH (l.take (i + 1)) ⟨xo, xm⟩ = blkH (l.take i) ⟨xo, xm⟩) := Lib.hid (by rw [HN.out, hq]; simp)
        clear HN
        obtain rfl : xo = zo := (beq_iff_eq.1 hq).symm
        clear hq
        generalize hbl : blkH (l.take i) ⟨xo, xm⟩ = bl at *
        have HBL := Lib.hid hbl
        clear hbl
        go_wp2_with fail
        go_roundw
        case rel => exact ⟨i + 1, by omega, by go_num, Lib.hid (by rw [he.out]; exact hS2.out)⟩
        case measure => simp [intOf]; omega
      | false =>
        have hne : (zo != xo) = true := by simp only [bne, hq, Bool.not_false]
        cases hcl : clashM zm xm with
        | false =>
          have he : Hid (blkH (l.take (i + 1)) ⟨xo, xm⟩ = blkH (l.take i) ⟨xo, xm⟩) := Lib.hid (by rw [HN.out, hq, hcl]; simp)
          have HCL := Lib.hid hcl
          clear HN hcl hq
          generalize hbl : blkH (l.take i) ⟨xo, xm⟩ = bl at *
          have HBL := Lib.hid hbl
          clear hbl
          go_wp2_with fail
          refine (clash_any _ _ _).mono ?_
          rintro e w1 ⟨rfl, rfl⟩
          rw [HCL.out]
          go_wp2_with fail
          go_roundw
          case rel => exact ⟨i + 1, by omega, by go_num, Lib.hid (by rw [he.out]; exact hS2.out)⟩
          case measure => simp [intOf]; omega
        | true =>
          have he : Hid (blkH (l.take (i + 1)) ⟨xo, xm⟩ = blkH (l.take i) ⟨xo, xm⟩ ++ [zo]) := Lib.hid (by rw [HN.out, hq, hcl]; simp)
          have HCL := Lib.hid hcl
          clear HN hcl hq
          generalize hbl : blkH (l.take i) ⟨xo, xm⟩ = bl at *
          have HBL := Lib.hid hbl
          clear hbl
          obtain ⟨b6, c6, w6, hrun, hnr⟩ := NewRow.app (P := Tryz.prog) (t := 102) Tryz.underlying102 infoInt (by rfl) (by decide) hS2.out [.int .i64 zo] (by rfl) (by simp [Value.oneCell']) (by have := HLN.out; omega) (by decide) 43
          rw [show (wr.alloc (.cells #[.int .i64 zo, .int .i64 zm] 32)).heap.size = wr.heap.size + 1 by simp only [World.size_alloc]] at hrun
          have HRUN := Lib.hid hrun
          have HNR := Lib.hid hnr
          clear hrun hnr
          go_wp2_with fail
          refine (clash_any _ _ _).mono ?_
          rintro e w1 ⟨rfl, rfl⟩
          rw [HCL.out]
          go_wp2_with ((at_builtin; refine wpList_appendR _ rfl (.tmp 26) (.tmp 29) 102 102 rfl (.slice a5 bl.length c5) (.slice (some ⟨wr.heap.size + 1, 0, none⟩) 1 1) rfl rfl HRUN.out ?_))
          go_roundw
          case rel => exact ⟨i + 1, by omega, by go_num, Lib.hid (by rw [he.out]; simpa [intsV] using HNR.out)⟩
          case measure => simp [intOf]; omega
    · obtain rfl : i = l.length := by omega
      rw [List.take_length] at *
      have HF : Hid (Row wr 3 1 a5 (blkH l ⟨xo, xm⟩).length c5 (intsV (blkH l ⟨xo, xm⟩)) ∧ Below w.heap.size w wr ∧ ∀ y ∈ blkOf a5, w.heap.size ≤ y) := Lib.hid ⟨hr5, hB0.out.trans (hb5.mono hB0.out.size), fun y hy => Nat.le_trans hB0.out.size (hf5 y hy)⟩
      clear hr5 hb5 hf5
      go_wp2_with fail
      go_ret
      exact ⟨a5, c5, rfl, HF.out⟩
end Go.Proofs.YtmifgnibalbgjaaGreat
/- Things in any order; appends among them. -/
namespace Go.Proofs.YtmifgnibalbgjaaGreat
open Go.RowKit
open Classical in
/-- so often each thing is named. -/
noncomputable def cnt (x : Asn) (l : List Asn) : Nat := l.count x
open Classical in
theorem perm_ct {l l' : List Asn} (h : ∀ x, cnt x l = cnt x l') : l.Perm l' := List.perm_iff_count.2 h
open Classical in
/-- one. -/
noncomputable def on (x a : Asn) : Nat := if a = x then 1 else 0
open Classical in
theorem cnt_nil (x : Asn) : cnt x [] = 0 := by unfold cnt; simp
open Classical in
theorem cnt_cons (x a : Asn) (l : List Asn) : cnt x (a :: l) = cnt x l + on x a := by
  unfold cnt on; rw [List.count_cons]; simp
open Classical in
theorem cnt_append (x : Asn) (l r : List Asn) : cnt x (l ++ r) = cnt x l + cnt x r := by unfold cnt; rw [List.count_append]
example (A B C D E : Asn) (T : List Asn) : (A :: B :: ([C, D] ++ (E :: T))).Perm (E :: C :: (T ++ [B, A, D])) := perm_ct fun x => by
  simp only [cnt_cons, cnt_append, cnt_nil]; omega
theorem Mem.appP {w0 w : World} {D0 : List Nat} {a b : Option Addr} {ca cb : Nat} {I J : List Int} {l r : List Asn} [Stables r] (h : Mem w0 D0 w l) (hn : I.length + J.length ≤ 1000000) (hp : l.Perm (RowI a ca I :: RowI b cb J :: r)) :
    ∃ a' c' w', (Builtin.append_ #[102, 102] 102 #[.slice a I.length ca, .slice b J.length cb]).run Tryz.prog w = .ok (.slice a' (I.length + J.length) c') w' ∧ Mem w0 D0 w' (RowI a' c' (I ++ J) :: RowI b cb J :: r) := Mem.appRow (h.perm hp) hn
/-- who blocks one, of a line, of so many of its queue. -/
def blkQ (hs qs : List Hd) (o : Int) : Nat → List Int
  | 0 => []
  | i + 1 => blkQ hs qs o i ++ (match qs[i]? with | some z => if z.owner = o then blkH hs z ++ blkH (qs.take i) z else [] | none => [])
def blkLi (l : Li) (o : Int) : List Int := blkQ l.hs l.qs o l.qs.length
def blkL (L : List Li) (o : Int) : List Int := L.flatMap fun l => blkLi l o
theorem blkQ_next {hs qs : List Hd} {o : Int} {i : Nat} (h : i < qs.length) : blkQ hs qs o (i + 1) = blkQ hs qs o i ++ (if qs[i].owner = o then blkH hs qs[i] ++ blkH (qs.take i) qs[i] else []) := by
  rw [blkQ, List.getElem?_eq_getElem h]
set_option maxRecDepth 100000 in
theorem blkQ_len {hs qs : List Hd} (o : Int) (hb : hs.length + qs.length ≤ 64) : ∀ i, i ≤ qs.length → (blkQ hs qs o i).length ≤ i * 64
  | 0, _ => by simp [blkQ]
  | i + 1, h => by
    have ih := blkQ_len o hb i (by omega)
    rw [blkQ_next (by omega), List.length_append, Nat.succ_mul]
    have h1 := blkH_len hs qs[i]
    have h2 := blkH_len (qs.take i) qs[i]
    rw [List.length_take] at h2
    split
    · rw [List.length_append]; omega
    · rw [List.length_nil]; omega
def midB (L : List Li) (o : Int) (j : Nat) : List Int := (L.take j).flatMap fun l => blkLi l o
theorem midB_next {L : List Li} {o : Int} {i : Nat} (h : i < L.length) : midB L o (i + 1) = midB L o i ++ blkLi L[i] o := by
  unfold midB
  rw [List.take_succ_eq_append_getElem h, List.flatMap_append]; simp
set_option maxRecDepth 100000 in
theorem midB_len {L : List Li} (hb : Sm 64 L) (o : Int) : ∀ i, i ≤ L.length → (midB L o i).length ≤ i * 4096
  | 0, _ => by simp [midB]
  | i + 1, h => by
    have ih := midB_len hb o i (by omega)
    rw [midB_next (by omega), List.length_append, Nat.succ_mul]
    have h1 := hb.2 L[i] (List.getElem_mem _)
    have h2 := blkQ_len (hs := L[i].hs) (qs := L[i].qs) o h1 L[i].qs.length (Nat.le_refl _)
    have h3 : L[i].qs.length * 64 ≤ 64 * 64 := Nat.mul_le_mul_right _ (by omega)
    unfold blkLi
    omega
end Go.Proofs.YtmifgnibalbgjaaGreat
/- Blockers. -/
namespace Go.Proofs.YtmifgnibalbgjaaGreat
open Go.RowKit
theorem row_cap {w : World} {E k n c : Nat} {a : Option Addr} {xs : List Value} (h : Row w E k a n c xs) : n ≤ c := by
  rcases h.out with ⟨_, rfl, rfl, _⟩ | ⟨g, cur, e, hg, h1, _⟩
  · exact Nat.le_refl _
  · exact h1
theorem All.mem {A : Asn} : ∀ {l : List Asn} {w : World} {D : List Nat}, All l w D → A ∈ l → ∃ D', A w D'
  | [], _, _, _, h => by cases h
  | B :: l, w, D, ⟨D1, D2, _, _, h1, h2⟩, h => by
    rcases List.mem_cons.1 h with rfl | h
    · exact ⟨D1, h1⟩
    · exact All.mem h2 h
theorem Mem.blk {w0 w : World} {D0 : List Nat} {l : List Asn} {g : Nat} {cur : Array Value} {T : TypeId} (h : Mem w0 D0 w l) (hm : BlockA g cur T ∈ l) : w.heap[g]? = some (.cells cur T (0, 0)) := by
  obtain ⟨D, hA, _⟩ := h.out
  obtain ⟨D', h1⟩ := All.mem hA hm
  exact h1.2
/-- what was made since, beside what was there. -/
theorem Mem.join {w0 w w' : World} {D0 : List Nat} {l l' : List Asn} [Stables l] (h : Mem w0 D0 w l) (h' : Mem w [] w' l') : Mem w0 D0 w' (l' ++ l) := by
  obtain ⟨D', hA, hs⟩ := h'.out
  exact h.new hs.touch.keep hA fun x hx => (hs.fresh x hx).resolve_left (by simp)
/-- an answer that is a new row of numbers. -/
def NewI (w : World) (l : List Int) (e : Ending) (w' : World) : Prop := ∃ a c, e = .returned (.slice a l.length c) ∧ Mem w [] w' [RowI a c l]
set_option maxRecDepth 100000 in
set_option maxHeartbeats 8000000 in
theorem tab_blockers (p : Nat) (L : List Li) (o : Int) (w : World) (D : List Nat) (h : TabA p L w D) (hb : Sm 64 L) :
    Calls Tryz.prog 74 #[.pointer (some ⟨p, 0, none⟩), .int .i64 o] w (NewI w (riseI (blkL L o))) := by
  obtain ⟨la, n, c, X, hk, hm⟩ := Mem.table (Mem.start h)
  have hl := lnrow_len (Mem.rowAt [BlockA p #[.slice la n c] 144] (r := rowsOf X L ++ []) hm)
  obtain ⟨hk1, hk2⟩ := keys_at hk
  have hnL : n = L.length := by omega
  have HNL := Lib.hid hnL
  have HXN := Lib.hid hl
  obtain ⟨hc0, -⟩ := Mem.cellAt (i := 0) (v := .slice la n c) [] (r := RowA 66 3 la n c (lnFlat X) :: (rowsOf X L ++ [])) hm rfl
  have HLR := Lib.hid (Mem.rowAt [BlockA p #[.slice la n c] 144] (r := rowsOf X L ++ []) hm)
  have HRD := Lib.hid fun j (hx : j < X.length) (hl : j < L.length) => rowsOf_read [BlockA p #[.slice la n c] 144, RowA 66 3 la n c (lnFlat X)] hm hx hl
  have HSM := Lib.hid hb
  have hn4 : n ≤ 64 := by have := hb.1; omega
  have M0 := Lib.hid ((Mem.nil w).new (Below.refl _ _) (As := [RowI none 0 []]) (all_one ⟨rfl, Row.nil _ _ _⟩) (by simp [blkOf]))
  clear h hb hm hk hl hk1 hk2 hnL
  go_enter Tryz.func74, Tryz.ntmps74
  go_wp2_with fail
  go_loopw [5, 17] (fun v jv wr => ∃ j : Nat, j ≤ n ∧ jv = .int .i64 (j : Nat) ∧ Hid (∃ a ca, v = .slice a (midB L o j).length ca ∧ Mem w [] wr [RowI a ca (midB L o j)])) (fun _ jv _ => n - (intOf jv).toNat)
  case atStart => exact ⟨0, Nat.zero_le _, rfl, Lib.hid ⟨none, 0, rfl, M0.out⟩⟩
  case round =>
    obtain ⟨W1, rfl⟩ : ∃ W1, W1 = wr := ⟨_, rfl⟩
    obtain ⟨j, hj, rfl, hS⟩ := hrel
    clear M0
    obtain ⟨a, ca, rfl, hm⟩ := hS.out
    clear hS
    by_cases hlt : j < n
    · have hjX : j < X.length := by have := HXN.out; omega
      have hjL : j < L.length := by have := HNL.out; omega
      obtain ⟨g, rfl, hcs0⟩ := lnAt_row HLR.out j hjX
      obtain ⟨k0, k1, k2⟩ := hcs0.below hm.bel
      obtain ⟨r1, r2⟩ := HRD.out j hjX hjL
      have HH := Lib.hid (HdsAt.row r1)
      have HQ := Lib.hid (HdsAt.row r2)
      have hqc := row_cap r2
      have hmb : midB L o (j + 1) = midB L o j ++ blkLi L[j] o := midB_next hjL
      have HMB := Lib.hid hmb
      have hbl : blkLi L[j] o = blkQ L[j].hs L[j].qs o L[j].qs.length := rfl
      have HBL := Lib.hid hbl
      have HSJ := Lib.hid (HSM.out.2 _ (List.getElem_mem hjL))
      have HLI := Lib.hid (midB_len HSM.out o j (by omega))
      clear hcs0 r1 r2 hmb hbl
      generalize hMJ : midB L o j = IJ at *
      clear hMJ
      generalize blkLi L[j] o = BJ at *
      generalize L[j].hs = H at *
      generalize L[j].qs = Q at *
      generalize X[j] = x at *
      obtain ⟨xk, ⟨ha, hn, hc⟩, ⟨qa, qn, qc⟩⟩ := x
      simp only at k0 k1 k2 HH HQ hqc
      have hq64 : qn ≤ 64 := by have := HQ.out.1; have := HSJ.out; omega
      have hqn : qn = Q.length := HQ.out.1
      have HQN := Lib.hid hqn
      clear hqn
      have M1 := Lib.hid (hm.block #[.string xk, .slice ha hn hc, .slice qa qn qc] 66)
      clear hm
      go_wp2_with fail
      obtain ⟨W2, hW2⟩ : ∃ W2, W2 = W1.alloc (.cells #[.string xk, .slice ha hn hc, .slice qa qn qc] 66) := ⟨_, rfl⟩
      rw [← hW2] at M1 ⊢
      clear hW2 k0 k1 k2
      generalize W1.heap.size = b7 at *
      go_loopw [5, 24] (fun v jv wr => ∃ i : Nat, i ≤ qn ∧ jv = .int .i64 (i : Nat) ∧ Hid (∃ a ca, v = .slice a (IJ ++ blkQ H Q o i).length ca ∧ Mem w [] wr [RowI a ca (IJ ++ blkQ H Q o i), BlockA b7 #[.string xk, .slice ha hn hc, .slice qa qn qc] 66])) (fun _ jv _ => qn - (intOf jv).toNat)
      case atStart => exact ⟨0, Nat.zero_le _, rfl, Lib.hid ⟨a, ca, by simp [blkQ], by
        rw [show IJ ++ blkQ H Q o 0 = IJ by simp [blkQ]]
        exact M1.out.perm (List.Perm.swap _ _ _)⟩⟩
      case round =>
        obtain ⟨w1, rfl⟩ : ∃ w1, w1 = wr := ⟨_, rfl⟩
        obtain ⟨i, hi, rfl, hS⟩ := hrel
        obtain ⟨a, ca, rfl, hm⟩ := hS.out
        clear hS M1
        by_cases hlti : i < qn
        · have hiQ : i < Q.length := by have := HQN.out; omega
          obtain ⟨gq, oq, rfl, hcz⟩ := HQ.out.2 i hiQ
          obtain ⟨z0, z1⟩ := hcz.below hm.bel
          have hnx := blkQ_next (hs := H) (o := o) hiQ
          have HNX := Lib.hid hnx
          have HLB := Lib.hid (blkQ_len (hs := H) (qs := Q) o HSJ.out i (by omega))
          have HL1 := Lib.hid (blkH_len H Q[i])
          have HL2 := Lib.hid (blkH_len (Q.take i) Q[i])
          have m0 := hm.block #[.int .i64 Q[i].owner, .int .i64 Q[i].mode] 32
          obtain ⟨k1, -⟩ := cell_of_heap (i := 1) (v := .slice ha hn hc) (Mem.blk m0 (g := b7) (cur := #[.string xk, .slice ha hn hc, .slice (some ⟨gq, oq, none⟩) qn qc]) (T := 66) (by simp)) rfl
          obtain ⟨k2, -⟩ := cell_of_heap (i := 2) (v := .slice (some ⟨gq, oq, none⟩) qn qc) (Mem.blk m0 (g := b7) (cur := #[.string xk, .slice ha hn hc, .slice (some ⟨gq, oq, none⟩) qn qc]) (T := 66) (by simp)) rfl
          have HM := Lib.hid hm
          have HM0 := Lib.hid m0
          clear hcz hnx hm m0
          generalize Q[i] = z at *
          obtain ⟨zo, zm⟩ := z
          simp only at z0 z1
          generalize hI : IJ ++ blkQ H Q o i = I at *
          have HI := Lib.hid hI
          clear hI
          cases hq : (zo == o) with
          | false =>
            have hne : (zo == o) = false := hq
            have he : Hid (IJ ++ blkQ H Q o (i + 1) = I) := Lib.hid (by rw [HNX.out, if_neg (by simpa using hne), List.append_nil, HI.out])
            have HF := Lib.hid (Mem.drop [] (r := [RowI a ca I, BlockA b7 #[.string xk, .slice ha hn hc, .slice (some ⟨gq, oq, none⟩) qn qc] 66]) HM0.out)
            clear HM HM0 hq k1 k2
            go_wp2_with fail
            go_roundw
            case rel => exact ⟨i + 1, by omega, by go_num, Lib.hid ⟨a, ca, by rw [he.out], by rw [he.out]; exact HF.out⟩⟩
            case measure => simp [intOf]; omega
          | true =>
            obtain rfl : o = zo := (beq_iff_eq.1 hq).symm
            have he : Hid (IJ ++ blkQ H Q o (i + 1) = I ++ blkH H ⟨o, zm⟩ ++ blkH (Q.take i) ⟨o, zm⟩) := Lib.hid (by rw [HNX.out, if_pos rfl, ← List.append_assoc, ← List.append_assoc, HI.out])
            have HLN : Hid (I.length ≤ 300000 ∧ (blkH H ⟨o, zm⟩).length ≤ 1000 ∧ (blkH (Q.take i) ⟨o, zm⟩).length ≤ 1000) := Lib.hid (by
              have a1 := HLB.out
              have a2 := HL1.out
              have a3 := HL2.out
              have a4 := HSJ.out
              have a5 := HLI.out
              rw [List.length_take] at a3
              rw [← HI.out, List.length_append]
              refine ⟨?_, by omega, by omega⟩
              have : j * 4096 ≤ 64 * 4096 := Nat.mul_le_mul_right _ (by omega)
              omega)
            have HC1 := Lib.hid fun W l (_ : Stables l) (hW : Mem w [] W l) => (blocked_any ha hn hc H ⟨o, zm⟩ W (HH.out.below hW.bel) (by have := HH.out.1; have := HSJ.out; omega)).mono fun e W' (h : ∃ b d, e = .returned (.slice b (blkH H ⟨o, zm⟩).length d) ∧ Row W' 3 1 b (blkH H ⟨o, zm⟩).length d (intsV (blkH H ⟨o, zm⟩)) ∧ Below W.heap.size W W' ∧ ∀ y ∈ blkOf b, W.heap.size ≤ y) => (by
              obtain ⟨b, d, he, hr, hb, hf⟩ := h
              exact ⟨b, d, he, hW.new hb (As := [RowI b d (blkH H ⟨o, zm⟩)]) (all_one ⟨rfl, hr⟩) hf⟩ : ∃ b d, e = .returned (.slice b (blkH H ⟨o, zm⟩).length d) ∧ Mem w [] W' (RowI b d (blkH H ⟨o, zm⟩) :: l))
            have HC2 := Lib.hid fun W l (_ : Stables l) (hW : Mem w [] W l) => (blocked_any (some ⟨gq, oq, none⟩) i qc (Q.take i) ⟨o, zm⟩ W ((HQ.out.below hW.bel).take (by omega)) (by have := HQN.out; have := HSJ.out; omega)).mono fun e W' (h : ∃ b d, e = .returned (.slice b (blkH (Q.take i) ⟨o, zm⟩).length d) ∧ Row W' 3 1 b (blkH (Q.take i) ⟨o, zm⟩).length d (intsV (blkH (Q.take i) ⟨o, zm⟩)) ∧ Below W.heap.size W W' ∧ ∀ y ∈ blkOf b, W.heap.size ≤ y) => (by
              obtain ⟨b, d, he, hr, hb, hf⟩ := h
              exact ⟨b, d, he, hW.new hb (As := [RowI b d (blkH (Q.take i) ⟨o, zm⟩)]) (all_one ⟨rfl, hr⟩) hf⟩ : ∃ b d, e = .returned (.slice b (blkH (Q.take i) ⟨o, zm⟩).length d) ∧ Mem w [] W' (RowI b d (blkH (Q.take i) ⟨o, zm⟩) :: l))
            have hB9 : w1.heap.size = w1.heap.size := rfl
            have hiq2 : (i : Int) ≤ (qc : Int) := by omega
            have hiq3 : (0 : Int) ≤ (i : Int) := by omega
            have hiq4 : i ≤ qc := by omega
            obtain ⟨w2, hw2⟩ : ∃ w2, w2 = w1.alloc (.cells #[.int .i64 o, .int .i64 zm] 32) := ⟨_, rfl⟩
            clear HM hq HL1 HL2 HLB HNX HI hB9
            go_wp2_with fail
            rw [← hw2] at HM0 k1 k2 ⊢
            clear hw2
            generalize w1.heap.size = b9 at *
            have m0 := HM0.out.below (bel_drew w2)
            obtain ⟨z0', -⟩ := cell_of_heap (i := 0) (v := .int .i64 o) (Mem.blk HM0.out (g := b9) (cur := #[.int .i64 o, .int .i64 zm]) (T := 32) (by simp)) rfl
            obtain ⟨z1', -⟩ := cell_of_heap (i := 1) (v := .int .i64 zm) (Mem.blk HM0.out (g := b9) (cur := #[.int .i64 o, .int .i64 zm]) (T := 32) (by simp)) rfl
            have K8 : Hid (∀ W l, Mem w [] W l → BlockA b7 #[.string xk, .slice ha hn hc, .slice (some ⟨gq, oq, none⟩) qn qc] 66 ∈ l → BlockA b9 #[.int .i64 o, .int .i64 zm] 32 ∈ l → W.cell? ⟨b7, 1, none⟩ = some (.slice ha hn hc) ∧ W.cell? ⟨b7, 2, none⟩ = some (.slice (some ⟨gq, oq, none⟩) qn qc) ∧ W.cell? ⟨b9, 0, none⟩ = some (.int .i64 o) ∧ W.cell? ⟨b9, 1, none⟩ = some (.int .i64 zm)) := Lib.hid fun W l h h7 h9 => ⟨(cell_of_heap (Mem.blk h h7) rfl).1, (cell_of_heap (Mem.blk h h7) rfl).1, (cell_of_heap (Mem.blk h h9) rfl).1, (cell_of_heap (Mem.blk h h9) rfl).1⟩
            generalize hBH : blkH H ⟨o, zm⟩ = BH at *
            generalize hBQ : blkH (Q.take i) ⟨o, zm⟩ = BQ at *
            clear hBH hBQ
            go_region_held3 (fun W => W.cell? ⟨b7, 1, none⟩ = some (.slice ha hn hc) ∧ W.cell? ⟨b7, 2, none⟩ = some (.slice (some ⟨gq, oq, none⟩) qn qc) ∧ W.cell? ⟨b9, 0, none⟩ = some (.int .i64 o) ∧ W.cell? ⟨b9, 1, none⟩ = some (.int .i64 zm)) (exact K8.out _ _ (by assumption) (by simp) (by simp))
              (first
                | ((go_at_call_of 117 (Value.slice ha hn hc); refine (HC1.out _ _ inferInstance (by assumption)).mono ?_; rintro e w3 ⟨b1, d1, rfl, m1⟩))
                | ((go_at_call_of 117 (Value.slice (some ⟨gq, oq, none⟩) i qc); refine (HC2.out _ _ inferInstance (by assumption)).mono ?_; rintro e w3 ⟨b2, d2, rfl, m3⟩))
                | ((obtain ⟨a4, c4, w4, hrun4, mA⟩ := Mem.appP (a := a) (ca := ca) (I := I) (b := b1) (cb := d1) (J := BH) (r := [BlockA b9 #[.int .i64 o, .int .i64 zm] 32, BlockA b7 #[.string xk, .slice ha hn hc, .slice (some ⟨gq, oq, none⟩) qn qc] 66]) m1 (by have := HLN.out; omega) (perm_ct fun x => by simp only [cnt_cons, cnt_nil]; omega); have HR4 := Lib.hid hrun4; clear hrun4; refine step_appendR rfl (.tmp 33) (.tmp 37) 102 102 rfl (.slice a I.length ca) (.slice b1 BH.length d1) (by simp [Act.eval]) (by simp [Act.eval]) HR4.out ?_))
                | ((obtain ⟨a4, c4, w4, hrun4, mA⟩ := Mem.appP (a := a) (ca := ca) (I := I) (b := b1) (cb := d1) (J := BH) (r := [RowI b2 d2 BQ, BlockA b9 #[.int .i64 o, .int .i64 zm] 32, BlockA b7 #[.string xk, .slice ha hn hc, .slice (some ⟨gq, oq, none⟩) qn qc] 66]) m3 (by have := HLN.out; omega) (perm_ct fun x => by simp only [cnt_cons, cnt_nil]; omega); have HR4 := Lib.hid hrun4; clear hrun4; refine step_appendR rfl (.tmp 33) (.tmp 37) 102 102 rfl (.slice a I.length ca) (.slice b1 BH.length d1) (by simp [Act.eval]) (by simp [Act.eval]) HR4.out ?_))
                | ((obtain ⟨a4, c4, w4, hrun4, mA⟩ := Mem.appP (a := a) (ca := ca) (I := I) (b := b1) (cb := d1) (J := BH) (r := [RowI b2 d2 BQ, BlockA b9 #[.int .i64 o, .int .i64 zm] 32, BlockA b7 #[.string xk, .slice ha hn hc, .slice (some ⟨gq, oq, none⟩) qn qc] 66]) m1 (by have := HLN.out; omega) (perm_ct fun x => by simp only [cnt_cons, cnt_nil]; omega); have HR4 := Lib.hid hrun4; clear hrun4; refine step_appendR rfl (.tmp 33) (.tmp 37) 102 102 rfl (.slice a I.length ca) (.slice b1 BH.length d1) (by simp [Act.eval, Act.put]) (by simp [Act.eval, Act.put]) HR4.out ?_))
                | ((obtain ⟨a5, c5, w5, hrun5, mB⟩ := Mem.appP (a := a4) (ca := c4) (I := I ++ BH) (b := b2) (cb := d2) (J := BQ) (r := [RowI b1 d1 BH, BlockA b9 #[.int .i64 o, .int .i64 zm] 32, BlockA b7 #[.string xk, .slice ha hn hc, .slice (some ⟨gq, oq, none⟩) qn qc] 66]) m3 (by have := HLN.out; rw [List.length_append]; omega) (perm_ct fun x => by simp only [cnt_cons, cnt_nil]; omega); rw [List.length_append] at hrun5; have HR5 := Lib.hid hrun5; clear hrun5; refine step_appendR rfl (.tmp 38) (.tmp 44) 102 102 rfl (.slice a4 (I.length + BH.length) c4) (.slice b2 BQ.length d2) (by simp [Act.eval]) (by simp [Act.eval]) HR5.out ?_))
                | ((obtain ⟨a5, c5, w5, hrun5, mB⟩ := Mem.appP (a := a4) (ca := c4) (I := I ++ BH) (b := b2) (cb := d2) (J := BQ) (r := [RowI b1 d1 BH, BlockA b9 #[.int .i64 o, .int .i64 zm] 32, BlockA b7 #[.string xk, .slice ha hn hc, .slice (some ⟨gq, oq, none⟩) qn qc] 66]) mA (by have := HLN.out; rw [List.length_append]; omega) (perm_ct fun x => by simp only [cnt_cons, cnt_nil]; omega); rw [List.length_append] at hrun5; have HR5 := Lib.hid hrun5; clear hrun5; refine step_appendR rfl (.tmp 38) (.tmp 44) 102 102 rfl (.slice a4 (I.length + BH.length) c4) (.slice b2 BQ.length d2) (by simp [Act.eval]) (by simp [Act.eval]) HR5.out ?_)))
            all_goals
              have HF : Hid (Mem w [] w5 [RowI a5 c5 (I ++ BH ++ BQ), BlockA b7 #[.string xk, .slice ha hn hc, .slice (some ⟨gq, oq, none⟩) qn qc] 66]) := Lib.hid (Mem.drop [RowI a5 c5 (I ++ BH ++ BQ)] (r := [BlockA b7 #[.string xk, .slice ha hn hc, .slice (some ⟨gq, oq, none⟩) qn qc] 66]) (Mem.drop [RowI a5 c5 (I ++ BH ++ BQ)] (r := [BlockA b9 #[.int .i64 o, .int .i64 zm] 32, BlockA b7 #[.string xk, .slice ha hn hc, .slice (some ⟨gq, oq, none⟩) qn qc] 66]) (Mem.drop [RowI a5 c5 (I ++ BH ++ BQ)] (r := [RowI b1 d1 BH, BlockA b9 #[.int .i64 o, .int .i64 zm] 32, BlockA b7 #[.string xk, .slice ha hn hc, .slice (some ⟨gq, oq, none⟩) qn qc] 66]) mB)))
              have HLE : Hid ((I ++ BH ++ BQ).length = I.length + BH.length + BQ.length) := Lib.hid (by rw [List.length_append, List.length_append])
              clear m0 HM0 K8 mB mA m1 m3
              go_wp2_with fail
              go_roundw
              case rel => exact ⟨i + 1, by omega, by go_num, Lib.hid ⟨a5, c5, by rw [he.out, HLE.out], by rw [he.out]; exact HF.out⟩⟩
              case measure => simp [intOf]; omega
        · obtain rfl : i = qn := by omega
          have HF : Hid (Mem w [] w1 [RowI a ca (midB L o (j + 1))]) := Lib.hid (by
            rw [HMB.out, HBL.out, ← HQN.out]
            exact Mem.drop [RowI a ca (IJ ++ blkQ H Q o i)] (r := []) hm)
          have he : Hid (IJ ++ blkQ H Q o i = midB L o (j + 1)) := Lib.hid (by rw [HMB.out, HBL.out, ← HQN.out])
          rw [he.out]
          clear hm
          go_wp2_with fail
          go_roundw
          case rel => exact ⟨j + 1, by omega, by go_num, Lib.hid ⟨a, ca, rfl, HF.out⟩⟩
          case measure => simp [intOf]; omega
    · obtain rfl : j = n := by omega
      have he : midB L o j = blkL L o := by unfold midB blkL; rw [HNL.out, List.take_length]
      have hI6 := midB_len HSM.out o j (by have := HNL.out; omega)
      rw [he] at hm hI6 ⊢
      have hB6 : (blkL L o).length ≤ 1000000 := by omega
      have HSO := Lib.hid (mem_sort [] (r := []) hm hB6)
      clear hm he hI6
      go_wp2_with fail
      refine HSO.out.mono ?_
      rintro e w3 ⟨rfl, hm3⟩
      have HCO := Lib.hid (mem_compact [] (r := []) hm3 (by rw [sortI_len]; exact hB6))
      rw [sortI_len] at HCO
      clear hm3 HSO
      go_wp2_with fail
      refine HCO.out.mono ?_
      rintro e w4 ⟨rfl, hm4⟩
      have HF := Lib.hid hm4
      clear hm4 HCO
      go_wp2_with fail
      go_ret
      exact ⟨a, ca, rfl, HF.out⟩
end Go.Proofs.YtmifgnibalbgjaaGreat
