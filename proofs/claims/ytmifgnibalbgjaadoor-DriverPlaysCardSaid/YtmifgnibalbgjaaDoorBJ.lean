/- The document's driver takes what was read; Tell, whole. -/
import Derived.Test.YtmifgnibalbgjaaDoorBI
import Derived.Test.YtmifgnibalbgjaaDoorTill
namespace Go.Proofs.YtmifgnibalbgjaaDoor
open Go.RowKit
theorem ClosedM.step {md : Region.Mode} {ops : Array Oper} {m : Array Bool} (hM : ClosedM md ops m) (i : Nat) (h : (Region.ready md ops m).contains i = true) : ClosedM md ops (m.setIfInBounds i true) := hM.put (by simpa using h)
section
variable {w0 w : World} {g : Nat} {r : Rd} {q : List Asn} [Stables q] {sa pa : Option Addr} {sn sc pn pc : Nat} {ss : List ByteArray} {l : List Opp}
set_option maxRecDepth 100000 in
set_option maxHeartbeats 16000000 in
theorem rtell_get (p : Rep) (M : Mem w0 [] w (RefA g (.slice sa sn sc) (.slice pa pn pc) r :: q)) (hl : OpsAt w0 pa pn l) (hn : pn ≤ 1000) (hk : r.asks = 3) (hi0 : 0 ≤ r.i) (hil : r.i < l.length) (hrl : r.res.length ≤ 1000) (hpl : planErr l = 0) (h6 : ∀ o, l[r.i.toNat]? = some o → o.kind ≠ 6) (hpv : p.v.size ≤ 140737488355328) (h0 : p.code = 0) :
    Calls Tryd.prog 16 #[.pointer (some ⟨g, 0, none⟩), Rep.val p] w fun e w' => e = .returned (.tuple #[]) ∧ Mem w0 [] w' (RefA g (.slice sa sn sc) (.slice pa pn pc) (tellR ss l r p) :: q) := by
  obtain ⟨pcode, pt, pv, ph⟩ := p
  unfold Rep.val
  simp only at h0 hpv ⊢
  subst h0
  obtain ⟨j, hj⟩ : ∃ j : Nat, r.i = (j : Int) := ⟨r.i.toNat, by omega⟩
  have ej : r.i.toNat = j := by omega
  have hjl : j < l.length := by omega
  have hgo : l[j]? = some l[j] := List.getElem?_eq_getElem hjl
  have hok := h6 l[j] (by rw [ej]; exact hgo)
  obtain ⟨ok1, ok6⟩ := plan_kind hpl hgo
  have HE : Hid (tellR ss l r ⟨0, pt, pv, ph⟩ = if l[j].kind = 1 then opR l { r with write := stepW l[j] ⟨pv, ph⟩ (lastR r), res := r.res ++ [stepR l[j] ⟨pv, ph⟩] } (j + 1) else { r with write := stepW l[j] ⟨pv, ph⟩ (lastR r), res := r.res ++ [stepR l[j] ⟨pv, ph⟩], asks := 4 }) := Lib.hid (by
    have e1 : tellR ss l r ⟨0, pt, pv, ph⟩ = getR l r ⟨0, pt, pv, ph⟩ := by simp [tellR, hk]
    rw [e1]
    simp [getR, ej, hgo])
  have hk5 : l[j].kind ≤ 5 := by omega
  have HST := Lib.hid fun W => rstep_any l[j] ⟨pv, ph⟩ (lastR r) W ok1 hk5 hpv
  unfold stE opV rsV at HST
  simp only at HST
  have hln := hl.1
  obtain ⟨pb, off, rfl, ⟨o0, o1, o2, o3⟩, -⟩ := hl.at j hjl
  have HOP : Hid (∀ W, Below w0.heap.size w0 W → W.cell? ⟨pb, off + j * 4, none⟩ = some (.int .i64 l[j].kind) ∧ W.cell? ⟨pb, off + j * 4 + 1, none⟩ = some (.string l[j].key) ∧ W.cell? ⟨pb, off + j * 4 + 2, none⟩ = some (.string l[j].value) ∧ W.cell? ⟨pb, off + j * 4 + 3, none⟩ = some (.int .i64 l[j].n)) := Lib.hid fun W hb =>
    ⟨(hb.cell (World.block_lt_of_cell? w0 _ o0)).trans o0, (hb.cell (World.block_lt_of_cell? w0 _ o1)).trans o1, (hb.cell (World.block_lt_of_cell? w0 _ o2)).trans o2, (hb.cell (World.block_lt_of_cell? w0 _ o3)).trans o3⟩
  have HRP := Lib.hid fun W i r2 (M2 : Mem w0 [] W (RefA g (.slice sa sn sc) (.slice (some ⟨pb, off, none⟩) pn pc) r2 :: q)) hi => rop_any (l := l) i M2 hl hi (by omega)
  generalize hsw : stepW l[j] ⟨pv, ph⟩ (lastR r) = sw at *
  generalize hsr : stepR l[j] ⟨pv, ph⟩ = sr at *
  clear hsw hsr o0 o1 o2 o3
  obtain ⟨swv, swh⟩ := sw
  obtain ⟨srv, srh⟩ := sr
  simp only at HST
  have hjn : j < pn := by omega
  clear hgo h6 ej hi0 hil hok ok1 ok6 hpl hk5 hl hpv
  generalize l[j] = o at *
  obtain ⟨okd, oy, ov, on⟩ := o
  simp only at HE HST HOP
  clear hjl hln
  obtain ⟨R, hR⟩ : ∃ R, R = tellR ss l r ⟨0, pt, pv, ph⟩ := ⟨_, rfl⟩
  rw [← hR]
  rw [← hR] at HE
  clear hR
  obtain ⟨W1, hW1⟩ : ∃ W1, W1 = w.alloc (.cells #[.int .i64 0, .int .i64 pt, .string pv, .bool ph] 36) := ⟨_, rfl⟩
  have M1 : Hid (Mem w0 [] W1 (RefA g (.slice sa sn sc) (.slice (some ⟨pb, off, none⟩) pn pc) r :: BlockA w.heap.size #[.int .i64 0, .int .i64 pt, .string pv, .bool ph] 36 :: q)) := Lib.hid (by rw [hW1]; exact Mem.swap [] (M.block #[.int .i64 0, .int .i64 pt, .string pv, .bool ph] 36))
  clear M
  obtain ⟨n, hnr⟩ : ∃ n, n = r.res.length := ⟨_, rfl⟩
  have HNR := Lib.hid hnr
  have hn1000 : n ≤ 1000 := by omega
  have HG10 : Hid (∀ W L (_ : Stables L), Mem w0 [] W (RefA g (.slice sa sn sc) (.slice (some ⟨pb, off, none⟩) pn pc) r :: L) → ∃ ra rc, (W.cell? ⟨g, 10, none⟩ = some (.slice ra n rc) ∧ W.frozen? ⟨g, 10, none⟩ = false) ∧ Row W 52 2 ra n rc (rsFlat r.res)) := Lib.hid fun W L hst hM => by
    obtain ⟨ra, rc, MO⟩ := Mem.openR hM
    rw [hnr]
    exact ⟨ra, rc, rdC_cell (Mem.heapAt [] MO) 10 _ rfl, Mem.rowAt [BlockA g (rdC r (.slice sa sn sc) (.slice (some ⟨pb, off, none⟩) pn pc) ra rc) 55] MO⟩
  have HL0 : Hid (n = 0 → lastR r = rs0) := Lib.hid fun h => by
    have e : r.res = [] := List.eq_nil_of_length_eq_zero (by omega)
    unfold lastR
    rw [e]; rfl
  have HL1 : Hid (∀ m (h : m < r.res.length), n = m + 1 → lastR r = r.res[m]) := Lib.hid fun m h hm => by
    unfold lastR
    rw [List.getLast?_eq_getElem?, show r.res.length - 1 = m by omega, List.getElem?_eq_getElem h]; rfl
  clear hrl hnr
  obtain ⟨t0, t1, t3, t4, t5, t6, t7, t8, t9, t11, t12, tg⟩ := Mem.rdAt M1.out
  obtain ⟨ra, rc, ⟨t10, f10⟩, HRO⟩ := HG10.out _ _ inferInstance M1.out
  have hh := Mem.heapAt [RefA g (.slice sa sn sc) (.slice (some ⟨pb, off, none⟩) pn pc) r] (r := q) M1.out
  have x0 := (cell_of_heap (i := 0) (v := .int .i64 0) hh rfl).1
  have x1 := (cell_of_heap (i := 1) (v := .int .i64 pt) hh rfl).1
  rw [hk] at t6
  rw [hj] at t7
  clear hh t0 t1 t3 t5 t8 t9 t11 t12 tg f10 HRO
  go_enter Tryd.func16, Tryd.ntmps16
  go_upto_region 1 with (fail)
  rw [← hW1]
  clear hW1
  go_upto_region 17 with (fail)
  have MX : Hid (Mem w0 [] (W1.alloc (.cells #[.string ⟨#[]⟩, .bool false] 52)) (BlockA W1.heap.size #[.string ⟨#[]⟩, .bool false] 52 :: RefA g (.slice sa sn sc) (.slice (some ⟨pb, off, none⟩) pn pc) r :: BlockA w.heap.size #[.int .i64 0, .int .i64 pt, .string pv, .bool ph] 36 :: q)) := Lib.hid (M1.out.block #[.string ⟨#[]⟩, .bool false] 52)
  obtain ⟨W2, hW2⟩ : ∃ W2, W2 = W1.alloc (.cells #[.string ⟨#[]⟩, .bool false] 52) := ⟨_, rfl⟩
  rw [← hW2] at MX ⊢
  clear hW2 x0 x1 t4 t6 t7 t10 M1
  generalize W1.heap.size = b6 at *
  obtain ⟨ra0, rc0, ⟨t10, -⟩, -⟩ := HG10.out _ _ inferInstance (Mem.swap [] MX.out)
  go_upto_if 124 with (fail)
  clear t10
  go_cut [] from 125 to 136 (fun wx => Hid (Mem w0 [] wx (BlockA b6 #[.string (lastR r).v, .bool (lastR r).h] 52 :: RefA g (.slice sa sn sc) (.slice (some ⟨pb, off, none⟩) pn pc) r :: BlockA w.heap.size #[.int .i64 0, .int .i64 pt, .string pv, .bool ph] 36 :: q)))
  case first =>
    by_cases hn0 : n = 0
    · have b0 : decide ((0 : Int) < (n : Nat)) = false := decide_eq_false (by omega)
      have b1 : decide (0 < n) = false := decide_eq_false (by omega)
      have e := HL0.out hn0
      have MF : Hid (Mem w0 [] W2 (BlockA b6 #[.string (lastR r).v, .bool (lastR r).h] 52 :: RefA g (.slice sa sn sc) (.slice (some ⟨pb, off, none⟩) pn pc) r :: BlockA w.heap.size #[.int .i64 0, .int .i64 pt, .string pv, .bool ph] 36 :: q)) := Lib.hid (by rw [e]; exact MX.out)
      clear e HST HOP HRP HE HG10 HL0 HL1 MX b0 b1
      obtain rfl : n = 0 := hn0
      go_wp2_with fail
      go_meet
      case rel => exact MF
    · obtain ⟨m, rfl⟩ : ∃ m, n = m + 1 := ⟨n - 1, by omega⟩
      have hml : m < r.res.length := by have := HNR.out; omega
      obtain ⟨ra, rc, ⟨t10, -⟩, HRO⟩ := HG10.out _ _ inferInstance (Mem.swap [] MX.out)
      obtain ⟨ga, rfl, y0, y1⟩ := rsAt_row HRO m hml
      have e2 : lastR r = r.res[m] := HL1.out m hml rfl
      rw [← e2] at y0 y1
      generalize lastR r = la at *
      obtain ⟨lv, lh⟩ := la
      simp only at y0 y1
      have hh := Mem.heapAt [] MX.out
      obtain ⟨u0, uf0⟩ := cell_of_heap (i := 0) (v := .string ⟨#[]⟩) hh rfl
      obtain ⟨u1, uf1⟩ := cell_of_heap (i := 1) (v := .bool false) hh rfl
      have b0 : decide ((0 : Int) < ((m + 1 : Nat) : Int)) = true := decide_eq_true (by omega)
      have hw := IntWalk.i64_in (((m + 1 : Nat) : Int) - 1) (by omega)
      have hm1 : ((m + 1 : Nat) : Int) - 1 = (m : Int) := by omega
      have MA : Hid (Mem w0 [] (((W2.drew).setCell ⟨b6, 0, none⟩ (.string lv)).setCell ⟨b6, 1, none⟩ (.bool lh)) (BlockA b6 #[.string lv, .bool lh] 52 :: RefA g (.slice sa sn sc) (.slice (some ⟨pb, off, none⟩) pn pc) r :: BlockA w.heap.size #[.int .i64 0, .int .i64 pt, .string pv, .bool ph] 36 :: q)) := Lib.hid (Mem.setAt [] (i := 1) (Mem.setAt [] (i := 0) (MX.out.below (bel_drew _)) (.string lv)) (.bool lh))
      have MB : Hid (Mem w0 [] (((W2.setCell ⟨b6, 0, none⟩ (.string lv)).setCell ⟨b6, 1, none⟩ (.bool lh)).drew) (BlockA b6 #[.string lv, .bool lh] 52 :: RefA g (.slice sa sn sc) (.slice (some ⟨pb, off, none⟩) pn pc) r :: BlockA w.heap.size #[.int .i64 0, .int .i64 pt, .string pv, .bool ph] 36 :: q)) := Lib.hid (Mem.below (Mem.setAt [] (i := 1) (Mem.setAt [] (i := 0) MX.out (.string lv)) (.bool lh)) (bel_drew _))
      clear e2 HST HOP HRP HE HG10 HL0 HL1 hn0 MX hh HRO hml HNR
      go_wp2_with fail
      go_region
      all_goals
        go_wp2_with fail
        go_meet
        case rel => first | exact MA | exact MB
  case rest =>
  clear MX HL0 HL1
  have MX := hcut
  clear hcut
  generalize lastR r = la at *
  obtain ⟨lv, lh⟩ := la
  simp only at HST MX
  have MY := Lib.hid (Mem.swap [] MX.out)
  obtain ⟨t0, t1, t3, t4, t5, t6, t7, t8, t9, t11, t12, tg⟩ := Mem.rdAt MY.out
  rw [hj] at t7
  have hh := Mem.heapAt [] MX.out
  have u0 := (cell_of_heap (i := 0) (v := .string lv) hh rfl).1
  have u1 := (cell_of_heap (i := 1) (v := .bool lh) hh rfl).1
  have hh2 := Mem.heapAt [BlockA b6 #[.string lv, .bool lh] 52, RefA g (.slice sa sn sc) (.slice (some ⟨pb, off, none⟩) pn pc) r] (r := q) MX.out
  have x2 := (cell_of_heap (i := 2) (v := .string pv) hh2 rfl).1
  have x3 := (cell_of_heap (i := 3) (v := .bool ph) hh2 rfl).1
  obtain ⟨p0, p1, p2, p3⟩ := HOP.out _ MX.out.bel
  clear t0 t1 t3 t5 t6 t8 t9 t11 t12 tg hh hh2
  go_upto_region 19 with (fail)
  go_cut [7, 8] from 137 to 156 (fun v7 v8 wx => ∃ b7 b8, v7 = .pointer (some ⟨b7, 0, none⟩) ∧ v8 = .pointer (some ⟨b8, 0, none⟩) ∧ Hid (Mem w0 [] wx (RefA g (.slice sa sn sc) (.slice (some ⟨pb, off, none⟩) pn pc) r :: BlockA b8 #[.string srv, .bool srh] 52 :: BlockA b7 #[.string swv, .bool swh] 52 :: q)))
  case first =>
    have MQ : Hid (∀ W, Below wc.heap.size wc W → Mem w0 [] W (RefA g (.slice sa sn sc) (.slice (some ⟨pb, off, none⟩) pn pc) r :: q)) := Lib.hid fun W hb => by
      have h := MY.out.below hb
      exact Mem.drop [RefA g (.slice sa sn sc) (.slice (some ⟨pb, off, none⟩) pn pc) r] (A := BlockA w.heap.size #[.int .i64 0, .int .i64 pt, .string pv, .bool ph] 36) (r := q) (Mem.drop [RefA g (.slice sa sn sc) (.slice (some ⟨pb, off, none⟩) pn pc) r] (A := BlockA b6 #[.string lv, .bool lh] 52) (r := BlockA w.heap.size #[.int .i64 0, .int .i64 pt, .string pv, .bool ph] 36 :: q) h)
    have KS : Hid (∀ W, Below wc.heap.size wc W → Below wc.heap.size wc W ∧ (W.cell? ⟨pb, off + j * 4, none⟩ = some (.int .i64 okd) ∧ W.cell? ⟨pb, off + j * 4 + 1, none⟩ = some (.string oy) ∧ W.cell? ⟨pb, off + j * 4 + 2, none⟩ = some (.string ov) ∧ W.cell? ⟨pb, off + j * 4 + 3, none⟩ = some (.int .i64 on)) ∧ (W.cell? ⟨w.heap.size, 2, none⟩ = some (.string pv) ∧ W.cell? ⟨w.heap.size, 3, none⟩ = some (.bool ph)) ∧ (W.cell? ⟨b6, 0, none⟩ = some (.string lv) ∧ W.cell? ⟨b6, 1, none⟩ = some (.bool lh)) ∧ W.cell? ⟨g, 4, none⟩ = some (.slice (some ⟨pb, off, none⟩) pn pc) ∧ W.cell? ⟨g, 7, none⟩ = some (.int .i64 j)) := Lib.hid fun W hb => by
      have k := fun {q : Addr} {v : Value} (h : wc.cell? q = some v) => (hb.cell (World.block_lt_of_cell? wc q h)).trans h
      exact ⟨hb, ⟨k p0, k p1, k p2, k p3⟩, ⟨k x2, k x3⟩, ⟨k u0, k u1⟩, k t4, k t7⟩
    have HS5 : Hid (∀ W, Below wc.heap.size wc W → Calls Tryd.prog 38 #[.agg #[.int .i64 okd, .string oy, .string ov, .int .i64 on], .agg #[.string pv, .bool ph], .agg #[.string lv, .bool lh]] W fun e w' => e = .returned (.tuple #[.agg #[.string swv, .bool swh], .agg #[.string srv, .bool srh]]) ∧ Below wc.heap.size wc w') := Lib.hid fun W hb => (HST.out W).mono fun e w' hh => ⟨hh.1, hb.trans (hh.2.mono hb.size)⟩
    have m0 := below_drew (Below.refl wc.heap.size wc)
    obtain ⟨-, ⟨q0, q1, q2, q3⟩, ⟨q4, q5⟩, ⟨q6, q7⟩, q8, q9⟩ := KS.out wc (Below.refl _ _)
    have hi0 : (0 : Int) ≤ (j : Int) := by omega
    have hil : (j : Int) < (pn : Int) := by omega
    clear HOP HRP HE HG10 MX MY
    have HTS : Hid (∀ W, Below wc.heap.size wc W → (W.cell? ⟨pb, off + j * 4, none⟩ = some (.int .i64 okd) ∧ W.cell? ⟨pb, off + j * 4 + 1, none⟩ = some (.string oy) ∧ W.cell? ⟨pb, off + j * 4 + 2, none⟩ = some (.string ov) ∧ W.cell? ⟨pb, off + j * 4 + 3, none⟩ = some (.int .i64 on)) ∧ (W.cell? ⟨w.heap.size, 2, none⟩ = some (.string pv) ∧ W.cell? ⟨w.heap.size, 3, none⟩ = some (.bool ph)) ∧ (W.cell? ⟨b6, 0, none⟩ = some (.string lv) ∧ W.cell? ⟨b6, 1, none⟩ = some (.bool lh)) ∧ W.cell? ⟨g, 4, none⟩ = some (.slice (some ⟨pb, off, none⟩) pn pc) ∧ W.cell? ⟨g, 7, none⟩ = some (.int .i64 j)) := Lib.hid fun W hb => (KS.out W hb).2
    refine wp_region_till (fun W => (W.cell? ⟨pb, off + j * 4, none⟩ = some (.int .i64 okd) ∧ W.cell? ⟨pb, off + j * 4 + 1, none⟩ = some (.string oy) ∧ W.cell? ⟨pb, off + j * 4 + 2, none⟩ = some (.string ov) ∧ W.cell? ⟨pb, off + j * 4 + 3, none⟩ = some (.int .i64 on)) ∧ (W.cell? ⟨w.heap.size, 2, none⟩ = some (.string pv) ∧ W.cell? ⟨w.heap.size, 3, none⟩ = some (.bool ph)) ∧ (W.cell? ⟨b6, 0, none⟩ = some (.string lv) ∧ W.cell? ⟨b6, 1, none⟩ = some (.bool lh)) ∧ W.cell? ⟨g, 4, none⟩ = some (.slice (some ⟨pb, off, none⟩) pn pc) ∧ W.cell? ⟨g, 7, none⟩ = some (.int .i64 j)) 23 (by kernel_rfl) (HTS.out _ (bel_two (Below.refl _ _))) (fun hM hS => ?_)
    refine till_op (v := ?_) 0 [1, 2, 3, 8, 9, 16, 17, 19] hM rfl (by kernel_rfl) (by kernel_rfl) (by kernel_rfl) (by kernel_rfl) rfl (fun _ _ _ h => h) (Or.inl ⟨by rfl, ?_⟩) hS (fun hM => ?_)
    rotate_left
    · intro W hSw
      (try dsimp only at hSw)
      go_simp
      try with_reducible rfl
    try simp only [Act.put, List.setIfInBounds_toArray, List.set_cons_zero, List.set_cons_succ]
    refine till_op (v := ?_) 1 [2, 3, 8, 9, 16, 17, 19] hM rfl (by kernel_rfl) (by kernel_rfl) (by kernel_rfl) (by kernel_rfl) rfl (fun _ _ _ h => h) (Or.inl ⟨by rfl, ?_⟩) hS (fun hM => ?_)
    rotate_left
    · intro W hSw
      (try dsimp only at hSw)
      go_simp
      try with_reducible rfl
    try simp only [Act.put, List.setIfInBounds_toArray, List.set_cons_zero, List.set_cons_succ]
    refine till_op (v := ?_) 2 [3, 8, 9, 16, 17, 19] hM rfl (by kernel_rfl) (by kernel_rfl) (by kernel_rfl) (by kernel_rfl) rfl (fun _ _ _ h => h) (Or.inl ⟨by rfl, ?_⟩) hS (fun hM => ?_)
    rotate_left
    · intro W hSw
      (try dsimp only at hSw)
      go_simp
      try with_reducible rfl
    try simp only [Act.put, List.setIfInBounds_toArray, List.set_cons_zero, List.set_cons_succ]
    refine till_op (v := ?_) 3 [8, 9, 16, 17, 19] hM rfl (by kernel_rfl) (by kernel_rfl) (by kernel_rfl) (by kernel_rfl) rfl (fun _ _ _ h => h) (Or.inl ⟨by rfl, ?_⟩) hS (fun hM => ?_)
    rotate_left
    · intro W hSw
      (try dsimp only at hSw)
      go_simp
      try with_reducible rfl
    try simp only [Act.put, List.setIfInBounds_toArray, List.set_cons_zero, List.set_cons_succ]
    refine till_op (v := ?_) 4 [5, 6, 7, 8, 9, 16, 17, 19] hM rfl (by kernel_rfl) (by kernel_rfl) (by kernel_rfl) (by kernel_rfl) rfl (fun _ _ _ h => h) (Or.inl ⟨by rfl, ?_⟩) hS (fun hM => ?_)
    rotate_left
    · intro W hSw
      (try dsimp only at hSw)
      go_simp
      try with_reducible rfl
    try simp only [Act.put, List.setIfInBounds_toArray, List.set_cons_zero, List.set_cons_succ]
    refine till_op (v := ?_) 5 [6, 7, 8, 9, 16, 17, 19] hM rfl (by kernel_rfl) (by kernel_rfl) (by kernel_rfl) (by kernel_rfl) rfl (fun _ _ _ h => h) (Or.inl ⟨by rfl, ?_⟩) hS (fun hM => ?_)
    rotate_left
    · intro W hSw
      (try dsimp only at hSw)
      go_simp
      try with_reducible rfl
    try simp only [Act.put, List.setIfInBounds_toArray, List.set_cons_zero, List.set_cons_succ]
    refine till_op (v := ?_) 6 [7, 8, 9, 16, 17, 19] hM rfl (by kernel_rfl) (by kernel_rfl) (by kernel_rfl) (by kernel_rfl) rfl (fun _ _ _ h => h) (Or.inl ⟨by rfl, ?_⟩) hS (fun hM => ?_)
    rotate_left
    · intro W hSw
      (try dsimp only at hSw)
      go_simp
      try with_reducible rfl
    try simp only [Act.put, List.setIfInBounds_toArray, List.set_cons_zero, List.set_cons_succ]
    refine till_op (v := ?_) 7 [8, 9, 16, 17, 19] hM rfl (by kernel_rfl) (by kernel_rfl) (by kernel_rfl) (by kernel_rfl) rfl (fun _ _ _ h => h) (Or.inl ⟨by rfl, ?_⟩) hS (fun hM => ?_)
    rotate_left
    · intro W hSw
      (try dsimp only at hSw)
      go_simp
      try with_reducible rfl
    try simp only [Act.put, List.setIfInBounds_toArray, List.set_cons_zero, List.set_cons_succ]
    refine till_op (v := ?_) 8 [9, 16, 17, 19] hM rfl (by kernel_rfl) (by kernel_rfl) (by kernel_rfl) (by kernel_rfl) rfl (fun _ _ _ h => h) (Or.inl ⟨by rfl, ?_⟩) hS (fun hM => ?_)
    rotate_left
    · intro W hSw
      (try dsimp only at hSw)
      go_simp
      try with_reducible rfl
    try simp only [Act.put, List.setIfInBounds_toArray, List.set_cons_zero, List.set_cons_succ]
    refine till_op (v := ?_) 9 [16, 17, 19] hM rfl (by kernel_rfl) (by kernel_rfl) (by kernel_rfl) (by kernel_rfl) rfl (fun _ _ _ h => h) (Or.inl ⟨by rfl, ?_⟩) hS (fun hM => ?_)
    rotate_left
    · intro W hSw
      (try dsimp only at hSw)
      go_simp
      try with_reducible rfl
    try simp only [Act.put, List.setIfInBounds_toArray, List.set_cons_zero, List.set_cons_succ]
    refine till_op (v := ?_) 10 [11, 14, 16, 17, 19] hM rfl (by kernel_rfl) (by kernel_rfl) (by kernel_rfl) (by kernel_rfl) rfl (fun _ _ _ h => h) (Or.inl ⟨by rfl, ?_⟩) hS (fun hM => ?_)
    rotate_left
    · intro W hSw
      (try dsimp only at hSw)
      go_simp
      try with_reducible rfl
    try simp only [Act.put, List.setIfInBounds_toArray, List.set_cons_zero, List.set_cons_succ]
    refine till_op (v := ?_) 11 [14, 16, 17, 19] hM rfl (by kernel_rfl) (by kernel_rfl) (by kernel_rfl) (by kernel_rfl) rfl (fun _ _ _ h => h) (Or.inl ⟨by rfl, ?_⟩) hS (fun hM => ?_)
    rotate_left
    · intro W hSw
      (try dsimp only at hSw)
      go_simp
      try with_reducible rfl
    try simp only [Act.put, List.setIfInBounds_toArray, List.set_cons_zero, List.set_cons_succ]
    refine till_op (v := ?_) 12 [13, 14, 16, 17, 19] hM rfl (by kernel_rfl) (by kernel_rfl) (by kernel_rfl) (by kernel_rfl) rfl (fun _ _ _ h => h) (Or.inl ⟨by rfl, ?_⟩) hS (fun hM => ?_)
    rotate_left
    · intro W hSw
      (try dsimp only at hSw)
      go_simp
      try with_reducible rfl
    try simp only [Act.put, List.setIfInBounds_toArray, List.set_cons_zero, List.set_cons_succ]
    refine till_op (v := ?_) 13 [14, 16, 17, 19] hM rfl (by kernel_rfl) (by kernel_rfl) (by kernel_rfl) (by kernel_rfl) rfl (fun _ _ _ h => h) (Or.inl ⟨by rfl, ?_⟩) hS (fun hM => ?_)
    rotate_left
    · intro W hSw
      (try dsimp only at hSw)
      go_simp
      try with_reducible rfl
    try simp only [Act.put, List.setIfInBounds_toArray, List.set_cons_zero, List.set_cons_succ]
    refine till_op (v := ?_) 14 [16, 17, 19] hM rfl (by kernel_rfl) (by kernel_rfl) (by kernel_rfl) (by kernel_rfl) rfl (fun _ _ _ h => h) (Or.inl ⟨by rfl, ?_⟩) hS (fun hM => ?_)
    rotate_left
    · intro W hSw
      (try dsimp only at hSw)
      go_simp
      try with_reducible rfl
    try simp only [Act.put, List.setIfInBounds_toArray, List.set_cons_zero, List.set_cons_succ]
    refine till_op (v := ?_) 15 [16, 17, 19] hM rfl (by kernel_rfl) (by kernel_rfl) (by kernel_rfl) (by kernel_rfl) rfl (fun _ _ _ h => h) (Or.inl ⟨by rfl, ?_⟩) hS (fun hM => ?_)
    rotate_left
    · intro W hSw
      (try dsimp only at hSw)
      go_simp
      try with_reducible rfl
    try simp only [Act.put, List.setIfInBounds_toArray, List.set_cons_zero, List.set_cons_succ]
    obtain ⟨X0, hX0e⟩ : ∃ X0, X0 = wc.drew := ⟨_, rfl⟩
    have hX0 : Below wc.heap.size wc X0 := by rw [hX0e]; exact bel_two (Below.refl _ _)
    have MX0 := Lib.hid (MQ.out _ hX0)
    rw [← hX0e]
    clear hX0e MQ hS
    refine till_ready (rs := [16, 20, 21]) (by kernel_rfl) (by simp) (EachTill.op rfl (fun K hK => ?_) (EachTill.op rfl (fun K hK => ?_) (EachTill.op rfl (fun K hK => ?_) EachTill.nil)))
    · go_simp
      go_at_call 38
      refine (HST.out _).mono ?_
      rintro e X1 ⟨rfl, hbx⟩
      have hX1 : Below wc.heap.size wc X1 := hX0.trans (hbx.mono hX0.size)
      have MX1 := Lib.hid (MX0.out.below hbx)
      clear hbx MX0
      refine hK _ _ (fun _ => HTS.out _ hX1) ?_
      clear hK K
      try simp only [Act.put, List.setIfInBounds_toArray, List.set_cons_zero, List.set_cons_succ]
      have hM := ClosedM.step hM 16 (by kernel_rfl)
      have hS := HTS.out _ hX1
      refine till_op (v := ?_) 17 [19] hM rfl (by kernel_rfl) (by kernel_rfl) (by kernel_rfl) (by kernel_rfl) rfl (fun _ _ _ h => h) (Or.inl ⟨by rfl, ?_⟩) hS (fun hM => ?_)
      rotate_left
      · intro W hSw
        (try dsimp only at hSw)
        go_simp
        try with_reducible rfl
      try simp only [Act.put, List.setIfInBounds_toArray, List.set_cons_zero, List.set_cons_succ]
      refine till_op (v := ?_) 18 [22] hM rfl (by kernel_rfl) (by kernel_rfl) (by kernel_rfl) (by kernel_rfl) rfl (fun _ _ _ h => h) (Or.inl ⟨by rfl, ?_⟩) hS (fun hM => ?_)
      rotate_left
      · intro W hSw
        (try dsimp only at hSw)
        go_simp
        try with_reducible rfl
      try simp only [Act.put, List.setIfInBounds_toArray, List.set_cons_zero, List.set_cons_succ]
      refine till_op (v := ?_) 19 [] hM rfl (by kernel_rfl) (by kernel_rfl) (by kernel_rfl) (by kernel_rfl) rfl (fun _ _ _ h => h) (Or.inl ⟨by rfl, ?_⟩) hS (fun hM => ?_)
      rotate_left
      · intro W hSw
        (try dsimp only at hSw)
        go_simp
        try with_reducible rfl
      try simp only [Act.put, List.setIfInBounds_toArray, List.set_cons_zero, List.set_cons_succ]
      clear hS
      refine till_ready (rs := [20, 21]) (by kernel_rfl) (by simp) (EachTill.op rfl (fun K hK => ?_) (EachTill.op rfl (fun K hK => ?_) EachTill.nil))
      · go_simp
        refine hK _ _ (fun _ => HTS.out _ (bel_one hX1 _)) ?_
        clear hK K
        try simp only [Act.put, List.setIfInBounds_toArray, List.set_cons_zero, List.set_cons_succ]
        obtain ⟨X2, eX2⟩ : ∃ X2, X2 = X1.alloc (.cells #[.string ⟨#[]⟩, .bool false] 52) := ⟨_, rfl⟩
        have hX2 : Below wc.heap.size wc X2 := by rw [eX2]; exact bel_one hX1 _
        obtain ⟨b7, hb7⟩ : ∃ b7, b7 = X1.heap.size := ⟨_, rfl⟩
        have lb7 : wc.heap.size ≤ b7 := by rw [hb7]; exact hX1.size
        have MX2 : Hid (Mem w0 [] X2 (BlockA b7 #[.string ⟨#[]⟩, .bool false] 52 :: RefA g (.slice sa sn sc) (.slice (some ⟨pb, off, none⟩) pn pc) r :: q)) := Lib.hid (by rw [eX2, hb7]; exact MX1.out.block _ 52)
        rw [← eX2, ← hb7]
        clear eX2 hb7 MX1
        have hM := ClosedM.step hM 20 (by kernel_rfl)
        refine till_ready (rs := [21]) (by kernel_rfl) (by simp) (EachTill.op rfl (fun K hK => ?_) EachTill.nil)
        go_simp
        refine hK _ _ (fun _ => HTS.out _ (bel_one hX2 _)) ?_
        clear hK K
        try simp only [Act.put, List.setIfInBounds_toArray, List.set_cons_zero, List.set_cons_succ]
        obtain ⟨X3, eX3⟩ : ∃ X3, X3 = X2.alloc (.cells #[.string ⟨#[]⟩, .bool false] 52) := ⟨_, rfl⟩
        have hX3 : Below wc.heap.size wc X3 := by rw [eX3]; exact bel_one hX2 _
        obtain ⟨b8, hb8⟩ : ∃ b8, b8 = X2.heap.size := ⟨_, rfl⟩
        have lb8 : wc.heap.size ≤ b8 := by rw [hb8]; exact hX2.size
        have MX3 : Hid (Mem w0 [] X3 (BlockA b8 #[.string ⟨#[]⟩, .bool false] 52 :: BlockA b7 #[.string ⟨#[]⟩, .bool false] 52 :: RefA g (.slice sa sn sc) (.slice (some ⟨pb, off, none⟩) pn pc) r :: q)) := Lib.hid (by rw [eX3, hb8]; exact MX2.out.block _ 52)
        rw [← eX3, ← hb8]
        clear eX3 hb8 MX2
        have hM := ClosedM.step hM 21 (by kernel_rfl)
        have hh := Mem.heapAt [BlockA b8 #[.string ⟨#[]⟩, .bool false] 52] (r := RefA g (.slice sa sn sc) (.slice (some ⟨pb, off, none⟩) pn pc) r :: q) MX3.out
        obtain ⟨u0, uf0⟩ := cell_of_heap (i := 0) (v := .string ⟨#[]⟩) hh rfl
        obtain ⟨u1, uf1⟩ := cell_of_heap (i := 1) (v := .bool false) hh rfl
        have MZ := Lib.hid (Mem.setAt [BlockA b8 #[.string ⟨#[]⟩, .bool false] 52] (r := RefA g (.slice sa sn sc) (.slice (some ⟨pb, off, none⟩) pn pc) r :: q) (i := 1) (Mem.setAt [BlockA b8 #[.string ⟨#[]⟩, .bool false] 52] (r := RefA g (.slice sa sn sc) (.slice (some ⟨pb, off, none⟩) pn pc) r :: q) (i := 0) MX3.out (.string swv)) (.bool swh))
        have hbz : Below wc.heap.size wc ((X3.setCell ⟨b7, 0, none⟩ (.string swv)).setCell ⟨b7, 1, none⟩ (.bool swh)) := Below.setCell (Below.setCell hX3 lb7 _) lb7 _
        clear hh MX3
        refine till_one 22 hM rfl (by kernel_rfl) (fun K hK => ?_)
        go_simp
        refine hK _ _ (fun _ => HTS.out _ hbz) (fun hM => ?_)
        clear hK K u0 u1 uf0 uf1
        try simp only [Act.put, List.setIfInBounds_toArray, List.set_cons_zero, List.set_cons_succ]
        obtain ⟨XF, hXF⟩ : ∃ XF, XF = (X3.setCell ⟨b7, 0, none⟩ (.string swv)).setCell ⟨b7, 1, none⟩ (.bool swh) := ⟨_, rfl⟩
        rw [← hXF] at MZ hbz ⊢
        clear hXF
        have MZ' : Hid (Mem w0 [] XF (BlockA b8 #[.string ⟨#[]⟩, .bool false] 52 :: BlockA b7 #[.string swv, .bool swh] 52 :: RefA g (.slice sa sn sc) (.slice (some ⟨pb, off, none⟩) pn pc) r :: q)) := MZ
        have hh := Mem.heapAt [] (r := BlockA b7 #[.string swv, .bool swh] 52 :: RefA g (.slice sa sn sc) (.slice (some ⟨pb, off, none⟩) pn pc) r :: q) MZ'.out
        obtain ⟨u0, uf0⟩ := cell_of_heap (i := 0) (v := .string ⟨#[]⟩) hh rfl
        obtain ⟨u1, uf1⟩ := cell_of_heap (i := 1) (v := .bool false) hh rfl
        have MF := Lib.hid (Mem.setAt [] (r := BlockA b7 #[.string swv, .bool swh] 52 :: RefA g (.slice sa sn sc) (.slice (some ⟨pb, off, none⟩) pn pc) r :: q) (i := 1) (Mem.setAt [] (r := BlockA b7 #[.string swv, .bool swh] 52 :: RefA g (.slice sa sn sc) (.slice (some ⟨pb, off, none⟩) pn pc) r :: q) (i := 0) MZ'.out (.string srv)) (.bool srh))
        have MF' : Hid (Mem w0 [] ((XF.setCell ⟨b8, 0, none⟩ (.string srv)).setCell ⟨b8, 1, none⟩ (.bool srh)) (BlockA b8 #[.string srv, .bool srh] 52 :: BlockA b7 #[.string swv, .bool swh] 52 :: RefA g (.slice sa sn sc) (.slice (some ⟨pb, off, none⟩) pn pc) r :: q)) := MF
        have MG : Hid (Mem w0 [] ((XF.setCell ⟨b8, 0, none⟩ (.string srv)).setCell ⟨b8, 1, none⟩ (.bool srh)) (RefA g (.slice sa sn sc) (.slice (some ⟨pb, off, none⟩) pn pc) r :: BlockA b8 #[.string srv, .bool srh] 52 :: BlockA b7 #[.string swv, .bool swh] 52 :: q)) := Lib.hid (Mem.swap [] (Mem.swap [BlockA b8 #[.string srv, .bool srh] 52] MF'.out))
        clear hh MZ MZ' MF MF'
        refine till_one 23 hM rfl (by kernel_rfl) (fun K hK => ?_)
        go_simp
        refine hK _ _ (fun h => absurd rfl h) (fun hM => ?_)
        clear hK K
        try simp only [Act.put, List.setIfInBounds_toArray, List.set_cons_zero, List.set_cons_succ]
        refine till_done (by kernel_rfl) ?_ _
        go_wp2_with fail
        go_meet
        case rel => exact ⟨b7, b8, rfl, rfl, MG⟩
      · go_simp
        refine hK _ _ (fun _ => HTS.out _ (bel_one hX1 _)) ?_
        clear hK K
        try simp only [Act.put, List.setIfInBounds_toArray, List.set_cons_zero, List.set_cons_succ]
        obtain ⟨X2, eX2⟩ : ∃ X2, X2 = X1.alloc (.cells #[.string ⟨#[]⟩, .bool false] 52) := ⟨_, rfl⟩
        have hX2 : Below wc.heap.size wc X2 := by rw [eX2]; exact bel_one hX1 _
        obtain ⟨b8, hb8⟩ : ∃ b8, b8 = X1.heap.size := ⟨_, rfl⟩
        have lb8 : wc.heap.size ≤ b8 := by rw [hb8]; exact hX1.size
        have MX2 : Hid (Mem w0 [] X2 (BlockA b8 #[.string ⟨#[]⟩, .bool false] 52 :: RefA g (.slice sa sn sc) (.slice (some ⟨pb, off, none⟩) pn pc) r :: q)) := Lib.hid (by rw [eX2, hb8]; exact MX1.out.block _ 52)
        rw [← eX2, ← hb8]
        clear eX2 hb8 MX1
        have hM := ClosedM.step hM 21 (by kernel_rfl)
        refine till_ready (rs := [20]) (by kernel_rfl) (by simp) (EachTill.op rfl (fun K hK => ?_) EachTill.nil)
        go_simp
        refine hK _ _ (fun _ => HTS.out _ (bel_one hX2 _)) ?_
        clear hK K
        try simp only [Act.put, List.setIfInBounds_toArray, List.set_cons_zero, List.set_cons_succ]
        obtain ⟨X3, eX3⟩ : ∃ X3, X3 = X2.alloc (.cells #[.string ⟨#[]⟩, .bool false] 52) := ⟨_, rfl⟩
        have hX3 : Below wc.heap.size wc X3 := by rw [eX3]; exact bel_one hX2 _
        obtain ⟨b7, hb7⟩ : ∃ b7, b7 = X2.heap.size := ⟨_, rfl⟩
        have lb7 : wc.heap.size ≤ b7 := by rw [hb7]; exact hX2.size
        have MX3 : Hid (Mem w0 [] X3 (BlockA b7 #[.string ⟨#[]⟩, .bool false] 52 :: BlockA b8 #[.string ⟨#[]⟩, .bool false] 52 :: RefA g (.slice sa sn sc) (.slice (some ⟨pb, off, none⟩) pn pc) r :: q)) := Lib.hid (by rw [eX3, hb7]; exact MX2.out.block _ 52)
        rw [← eX3, ← hb7]
        clear eX3 hb7 MX2
        have hM := ClosedM.step hM 20 (by kernel_rfl)
        have hh := Mem.heapAt [] (r := BlockA b8 #[.string ⟨#[]⟩, .bool false] 52 :: RefA g (.slice sa sn sc) (.slice (some ⟨pb, off, none⟩) pn pc) r :: q) MX3.out
        obtain ⟨u0, uf0⟩ := cell_of_heap (i := 0) (v := .string ⟨#[]⟩) hh rfl
        obtain ⟨u1, uf1⟩ := cell_of_heap (i := 1) (v := .bool false) hh rfl
        have MZ := Lib.hid (Mem.setAt [] (r := BlockA b8 #[.string ⟨#[]⟩, .bool false] 52 :: RefA g (.slice sa sn sc) (.slice (some ⟨pb, off, none⟩) pn pc) r :: q) (i := 1) (Mem.setAt [] (r := BlockA b8 #[.string ⟨#[]⟩, .bool false] 52 :: RefA g (.slice sa sn sc) (.slice (some ⟨pb, off, none⟩) pn pc) r :: q) (i := 0) MX3.out (.string swv)) (.bool swh))
        have hbz : Below wc.heap.size wc ((X3.setCell ⟨b7, 0, none⟩ (.string swv)).setCell ⟨b7, 1, none⟩ (.bool swh)) := Below.setCell (Below.setCell hX3 lb7 _) lb7 _
        clear hh MX3
        refine till_one 22 hM rfl (by kernel_rfl) (fun K hK => ?_)
        go_simp
        refine hK _ _ (fun _ => HTS.out _ hbz) (fun hM => ?_)
        clear hK K u0 u1 uf0 uf1
        try simp only [Act.put, List.setIfInBounds_toArray, List.set_cons_zero, List.set_cons_succ]
        obtain ⟨XF, hXF⟩ : ∃ XF, XF = (X3.setCell ⟨b7, 0, none⟩ (.string swv)).setCell ⟨b7, 1, none⟩ (.bool swh) := ⟨_, rfl⟩
        rw [← hXF] at MZ hbz ⊢
        clear hXF
        have MZ' : Hid (Mem w0 [] XF (BlockA b7 #[.string swv, .bool swh] 52 :: BlockA b8 #[.string ⟨#[]⟩, .bool false] 52 :: RefA g (.slice sa sn sc) (.slice (some ⟨pb, off, none⟩) pn pc) r :: q)) := MZ
        have hh := Mem.heapAt [BlockA b7 #[.string swv, .bool swh] 52] (r := RefA g (.slice sa sn sc) (.slice (some ⟨pb, off, none⟩) pn pc) r :: q) MZ'.out
        obtain ⟨u0, uf0⟩ := cell_of_heap (i := 0) (v := .string ⟨#[]⟩) hh rfl
        obtain ⟨u1, uf1⟩ := cell_of_heap (i := 1) (v := .bool false) hh rfl
        have MF := Lib.hid (Mem.setAt [BlockA b7 #[.string swv, .bool swh] 52] (r := RefA g (.slice sa sn sc) (.slice (some ⟨pb, off, none⟩) pn pc) r :: q) (i := 1) (Mem.setAt [BlockA b7 #[.string swv, .bool swh] 52] (r := RefA g (.slice sa sn sc) (.slice (some ⟨pb, off, none⟩) pn pc) r :: q) (i := 0) MZ'.out (.string srv)) (.bool srh))
        have MF' : Hid (Mem w0 [] ((XF.setCell ⟨b8, 0, none⟩ (.string srv)).setCell ⟨b8, 1, none⟩ (.bool srh)) (BlockA b7 #[.string swv, .bool swh] 52 :: BlockA b8 #[.string srv, .bool srh] 52 :: RefA g (.slice sa sn sc) (.slice (some ⟨pb, off, none⟩) pn pc) r :: q)) := MF
        have MG : Hid (Mem w0 [] ((XF.setCell ⟨b8, 0, none⟩ (.string srv)).setCell ⟨b8, 1, none⟩ (.bool srh)) (RefA g (.slice sa sn sc) (.slice (some ⟨pb, off, none⟩) pn pc) r :: BlockA b8 #[.string srv, .bool srh] 52 :: BlockA b7 #[.string swv, .bool swh] 52 :: q)) := Lib.hid (Mem.swap [] (Mem.swap [BlockA b8 #[.string srv, .bool srh] 52] (Mem.swap [] MF'.out)))
        clear hh MZ MZ' MF MF'
        refine till_one 23 hM rfl (by kernel_rfl) (fun K hK => ?_)
        go_simp
        refine hK _ _ (fun h => absurd rfl h) (fun hM => ?_)
        clear hK K
        try simp only [Act.put, List.setIfInBounds_toArray, List.set_cons_zero, List.set_cons_succ]
        refine till_done (by kernel_rfl) ?_ _
        go_wp2_with fail
        go_meet
        case rel => exact ⟨b7, b8, rfl, rfl, MG⟩
    · go_simp
      refine hK _ _ (fun _ => HTS.out _ (bel_one hX0 _)) ?_
      clear hK K
      try simp only [Act.put, List.setIfInBounds_toArray, List.set_cons_zero, List.set_cons_succ]
      obtain ⟨X1, eX1⟩ : ∃ X1, X1 = X0.alloc (.cells #[.string ⟨#[]⟩, .bool false] 52) := ⟨_, rfl⟩
      have hX1 : Below wc.heap.size wc X1 := by rw [eX1]; exact bel_one hX0 _
      obtain ⟨b7, hb7⟩ : ∃ b7, b7 = X0.heap.size := ⟨_, rfl⟩
      have lb7 : wc.heap.size ≤ b7 := by rw [hb7]; exact hX0.size
      have MX1 : Hid (Mem w0 [] X1 (BlockA b7 #[.string ⟨#[]⟩, .bool false] 52 :: RefA g (.slice sa sn sc) (.slice (some ⟨pb, off, none⟩) pn pc) r :: q)) := Lib.hid (by rw [eX1, hb7]; exact MX0.out.block _ 52)
      rw [← eX1, ← hb7]
      clear eX1 hb7 MX0
      have hM := ClosedM.step hM 20 (by kernel_rfl)
      refine till_ready (rs := [16, 21]) (by kernel_rfl) (by simp) (EachTill.op rfl (fun K hK => ?_) (EachTill.op rfl (fun K hK => ?_) EachTill.nil))
      · go_simp
        go_at_call 38
        refine (HST.out _).mono ?_
        rintro e X2 ⟨rfl, hbx⟩
        have hX2 : Below wc.heap.size wc X2 := hX1.trans (hbx.mono hX1.size)
        have MX2 := Lib.hid (MX1.out.below hbx)
        clear hbx MX1
        refine hK _ _ (fun _ => HTS.out _ hX2) ?_
        clear hK K
        try simp only [Act.put, List.setIfInBounds_toArray, List.set_cons_zero, List.set_cons_succ]
        have hM := ClosedM.step hM 16 (by kernel_rfl)
        have hS := HTS.out _ hX2
        refine till_op (v := ?_) 17 [19] hM rfl (by kernel_rfl) (by kernel_rfl) (by kernel_rfl) (by kernel_rfl) rfl (fun _ _ _ h => h) (Or.inl ⟨by rfl, ?_⟩) hS (fun hM => ?_)
        rotate_left
        · intro W hSw
          (try dsimp only at hSw)
          go_simp
          try with_reducible rfl
        try simp only [Act.put, List.setIfInBounds_toArray, List.set_cons_zero, List.set_cons_succ]
        refine till_op (v := ?_) 18 [22] hM rfl (by kernel_rfl) (by kernel_rfl) (by kernel_rfl) (by kernel_rfl) rfl (fun _ _ _ h => h) (Or.inl ⟨by rfl, ?_⟩) hS (fun hM => ?_)
        rotate_left
        · intro W hSw
          (try dsimp only at hSw)
          go_simp
          try with_reducible rfl
        try simp only [Act.put, List.setIfInBounds_toArray, List.set_cons_zero, List.set_cons_succ]
        refine till_op (v := ?_) 19 [] hM rfl (by kernel_rfl) (by kernel_rfl) (by kernel_rfl) (by kernel_rfl) rfl (fun _ _ _ h => h) (Or.inl ⟨by rfl, ?_⟩) hS (fun hM => ?_)
        rotate_left
        · intro W hSw
          (try dsimp only at hSw)
          go_simp
          try with_reducible rfl
        try simp only [Act.put, List.setIfInBounds_toArray, List.set_cons_zero, List.set_cons_succ]
        clear hS
        refine till_ready (rs := [21]) (by kernel_rfl) (by simp) (EachTill.op rfl (fun K hK => ?_) EachTill.nil)
        go_simp
        refine hK _ _ (fun _ => HTS.out _ (bel_one hX2 _)) ?_
        clear hK K
        try simp only [Act.put, List.setIfInBounds_toArray, List.set_cons_zero, List.set_cons_succ]
        obtain ⟨X3, eX3⟩ : ∃ X3, X3 = X2.alloc (.cells #[.string ⟨#[]⟩, .bool false] 52) := ⟨_, rfl⟩
        have hX3 : Below wc.heap.size wc X3 := by rw [eX3]; exact bel_one hX2 _
        obtain ⟨b8, hb8⟩ : ∃ b8, b8 = X2.heap.size := ⟨_, rfl⟩
        have lb8 : wc.heap.size ≤ b8 := by rw [hb8]; exact hX2.size
        have MX3 : Hid (Mem w0 [] X3 (BlockA b8 #[.string ⟨#[]⟩, .bool false] 52 :: BlockA b7 #[.string ⟨#[]⟩, .bool false] 52 :: RefA g (.slice sa sn sc) (.slice (some ⟨pb, off, none⟩) pn pc) r :: q)) := Lib.hid (by rw [eX3, hb8]; exact MX2.out.block _ 52)
        rw [← eX3, ← hb8]
        clear eX3 hb8 MX2
        have hM := ClosedM.step hM 21 (by kernel_rfl)
        have hh := Mem.heapAt [BlockA b8 #[.string ⟨#[]⟩, .bool false] 52] (r := RefA g (.slice sa sn sc) (.slice (some ⟨pb, off, none⟩) pn pc) r :: q) MX3.out
        obtain ⟨u0, uf0⟩ := cell_of_heap (i := 0) (v := .string ⟨#[]⟩) hh rfl
        obtain ⟨u1, uf1⟩ := cell_of_heap (i := 1) (v := .bool false) hh rfl
        have MZ := Lib.hid (Mem.setAt [BlockA b8 #[.string ⟨#[]⟩, .bool false] 52] (r := RefA g (.slice sa sn sc) (.slice (some ⟨pb, off, none⟩) pn pc) r :: q) (i := 1) (Mem.setAt [BlockA b8 #[.string ⟨#[]⟩, .bool false] 52] (r := RefA g (.slice sa sn sc) (.slice (some ⟨pb, off, none⟩) pn pc) r :: q) (i := 0) MX3.out (.string swv)) (.bool swh))
        have hbz : Below wc.heap.size wc ((X3.setCell ⟨b7, 0, none⟩ (.string swv)).setCell ⟨b7, 1, none⟩ (.bool swh)) := Below.setCell (Below.setCell hX3 lb7 _) lb7 _
        clear hh MX3
        refine till_one 22 hM rfl (by kernel_rfl) (fun K hK => ?_)
        go_simp
        refine hK _ _ (fun _ => HTS.out _ hbz) (fun hM => ?_)
        clear hK K u0 u1 uf0 uf1
        try simp only [Act.put, List.setIfInBounds_toArray, List.set_cons_zero, List.set_cons_succ]
        obtain ⟨XF, hXF⟩ : ∃ XF, XF = (X3.setCell ⟨b7, 0, none⟩ (.string swv)).setCell ⟨b7, 1, none⟩ (.bool swh) := ⟨_, rfl⟩
        rw [← hXF] at MZ hbz ⊢
        clear hXF
        have MZ' : Hid (Mem w0 [] XF (BlockA b8 #[.string ⟨#[]⟩, .bool false] 52 :: BlockA b7 #[.string swv, .bool swh] 52 :: RefA g (.slice sa sn sc) (.slice (some ⟨pb, off, none⟩) pn pc) r :: q)) := MZ
        have hh := Mem.heapAt [] (r := BlockA b7 #[.string swv, .bool swh] 52 :: RefA g (.slice sa sn sc) (.slice (some ⟨pb, off, none⟩) pn pc) r :: q) MZ'.out
        obtain ⟨u0, uf0⟩ := cell_of_heap (i := 0) (v := .string ⟨#[]⟩) hh rfl
        obtain ⟨u1, uf1⟩ := cell_of_heap (i := 1) (v := .bool false) hh rfl
        have MF := Lib.hid (Mem.setAt [] (r := BlockA b7 #[.string swv, .bool swh] 52 :: RefA g (.slice sa sn sc) (.slice (some ⟨pb, off, none⟩) pn pc) r :: q) (i := 1) (Mem.setAt [] (r := BlockA b7 #[.string swv, .bool swh] 52 :: RefA g (.slice sa sn sc) (.slice (some ⟨pb, off, none⟩) pn pc) r :: q) (i := 0) MZ'.out (.string srv)) (.bool srh))
        have MF' : Hid (Mem w0 [] ((XF.setCell ⟨b8, 0, none⟩ (.string srv)).setCell ⟨b8, 1, none⟩ (.bool srh)) (BlockA b8 #[.string srv, .bool srh] 52 :: BlockA b7 #[.string swv, .bool swh] 52 :: RefA g (.slice sa sn sc) (.slice (some ⟨pb, off, none⟩) pn pc) r :: q)) := MF
        have MG : Hid (Mem w0 [] ((XF.setCell ⟨b8, 0, none⟩ (.string srv)).setCell ⟨b8, 1, none⟩ (.bool srh)) (RefA g (.slice sa sn sc) (.slice (some ⟨pb, off, none⟩) pn pc) r :: BlockA b8 #[.string srv, .bool srh] 52 :: BlockA b7 #[.string swv, .bool swh] 52 :: q)) := Lib.hid (Mem.swap [] (Mem.swap [BlockA b8 #[.string srv, .bool srh] 52] MF'.out))
        clear hh MZ MZ' MF MF'
        refine till_one 23 hM rfl (by kernel_rfl) (fun K hK => ?_)
        go_simp
        refine hK _ _ (fun h => absurd rfl h) (fun hM => ?_)
        clear hK K
        try simp only [Act.put, List.setIfInBounds_toArray, List.set_cons_zero, List.set_cons_succ]
        refine till_done (by kernel_rfl) ?_ _
        go_wp2_with fail
        go_meet
        case rel => exact ⟨b7, b8, rfl, rfl, MG⟩
      · go_simp
        refine hK _ _ (fun _ => HTS.out _ (bel_one hX1 _)) ?_
        clear hK K
        try simp only [Act.put, List.setIfInBounds_toArray, List.set_cons_zero, List.set_cons_succ]
        obtain ⟨X2, eX2⟩ : ∃ X2, X2 = X1.alloc (.cells #[.string ⟨#[]⟩, .bool false] 52) := ⟨_, rfl⟩
        have hX2 : Below wc.heap.size wc X2 := by rw [eX2]; exact bel_one hX1 _
        obtain ⟨b8, hb8⟩ : ∃ b8, b8 = X1.heap.size := ⟨_, rfl⟩
        have lb8 : wc.heap.size ≤ b8 := by rw [hb8]; exact hX1.size
        have MX2 : Hid (Mem w0 [] X2 (BlockA b8 #[.string ⟨#[]⟩, .bool false] 52 :: BlockA b7 #[.string ⟨#[]⟩, .bool false] 52 :: RefA g (.slice sa sn sc) (.slice (some ⟨pb, off, none⟩) pn pc) r :: q)) := Lib.hid (by rw [eX2, hb8]; exact MX1.out.block _ 52)
        rw [← eX2, ← hb8]
        clear eX2 hb8 MX1
        have hM := ClosedM.step hM 21 (by kernel_rfl)
        refine till_ready (rs := [16]) (by kernel_rfl) (by simp) (EachTill.op rfl (fun K hK => ?_) EachTill.nil)
        go_simp
        go_at_call 38
        refine (HST.out _).mono ?_
        rintro e X3 ⟨rfl, hbx⟩
        have hX3 : Below wc.heap.size wc X3 := hX2.trans (hbx.mono hX2.size)
        have MX3 := Lib.hid (MX2.out.below hbx)
        clear hbx MX2
        refine hK _ _ (fun _ => HTS.out _ hX3) ?_
        clear hK K
        try simp only [Act.put, List.setIfInBounds_toArray, List.set_cons_zero, List.set_cons_succ]
        have hM := ClosedM.step hM 16 (by kernel_rfl)
        have hS := HTS.out _ hX3
        refine till_op (v := ?_) 17 [19] hM rfl (by kernel_rfl) (by kernel_rfl) (by kernel_rfl) (by kernel_rfl) rfl (fun _ _ _ h => h) (Or.inl ⟨by rfl, ?_⟩) hS (fun hM => ?_)
        rotate_left
        · intro W hSw
          (try dsimp only at hSw)
          go_simp
          try with_reducible rfl
        try simp only [Act.put, List.setIfInBounds_toArray, List.set_cons_zero, List.set_cons_succ]
        refine till_op (v := ?_) 18 [22] hM rfl (by kernel_rfl) (by kernel_rfl) (by kernel_rfl) (by kernel_rfl) rfl (fun _ _ _ h => h) (Or.inl ⟨by rfl, ?_⟩) hS (fun hM => ?_)
        rotate_left
        · intro W hSw
          (try dsimp only at hSw)
          go_simp
          try with_reducible rfl
        try simp only [Act.put, List.setIfInBounds_toArray, List.set_cons_zero, List.set_cons_succ]
        refine till_op (v := ?_) 19 [] hM rfl (by kernel_rfl) (by kernel_rfl) (by kernel_rfl) (by kernel_rfl) rfl (fun _ _ _ h => h) (Or.inl ⟨by rfl, ?_⟩) hS (fun hM => ?_)
        rotate_left
        · intro W hSw
          (try dsimp only at hSw)
          go_simp
          try with_reducible rfl
        try simp only [Act.put, List.setIfInBounds_toArray, List.set_cons_zero, List.set_cons_succ]
        clear hS
        have hh := Mem.heapAt [BlockA b8 #[.string ⟨#[]⟩, .bool false] 52] (r := RefA g (.slice sa sn sc) (.slice (some ⟨pb, off, none⟩) pn pc) r :: q) MX3.out
        obtain ⟨u0, uf0⟩ := cell_of_heap (i := 0) (v := .string ⟨#[]⟩) hh rfl
        obtain ⟨u1, uf1⟩ := cell_of_heap (i := 1) (v := .bool false) hh rfl
        have MZ := Lib.hid (Mem.setAt [BlockA b8 #[.string ⟨#[]⟩, .bool false] 52] (r := RefA g (.slice sa sn sc) (.slice (some ⟨pb, off, none⟩) pn pc) r :: q) (i := 1) (Mem.setAt [BlockA b8 #[.string ⟨#[]⟩, .bool false] 52] (r := RefA g (.slice sa sn sc) (.slice (some ⟨pb, off, none⟩) pn pc) r :: q) (i := 0) MX3.out (.string swv)) (.bool swh))
        have hbz : Below wc.heap.size wc ((X3.setCell ⟨b7, 0, none⟩ (.string swv)).setCell ⟨b7, 1, none⟩ (.bool swh)) := Below.setCell (Below.setCell hX3 lb7 _) lb7 _
        clear hh MX3
        refine till_one 22 hM rfl (by kernel_rfl) (fun K hK => ?_)
        go_simp
        refine hK _ _ (fun _ => HTS.out _ hbz) (fun hM => ?_)
        clear hK K u0 u1 uf0 uf1
        try simp only [Act.put, List.setIfInBounds_toArray, List.set_cons_zero, List.set_cons_succ]
        obtain ⟨XF, hXF⟩ : ∃ XF, XF = (X3.setCell ⟨b7, 0, none⟩ (.string swv)).setCell ⟨b7, 1, none⟩ (.bool swh) := ⟨_, rfl⟩
        rw [← hXF] at MZ hbz ⊢
        clear hXF
        have MZ' : Hid (Mem w0 [] XF (BlockA b8 #[.string ⟨#[]⟩, .bool false] 52 :: BlockA b7 #[.string swv, .bool swh] 52 :: RefA g (.slice sa sn sc) (.slice (some ⟨pb, off, none⟩) pn pc) r :: q)) := MZ
        have hh := Mem.heapAt [] (r := BlockA b7 #[.string swv, .bool swh] 52 :: RefA g (.slice sa sn sc) (.slice (some ⟨pb, off, none⟩) pn pc) r :: q) MZ'.out
        obtain ⟨u0, uf0⟩ := cell_of_heap (i := 0) (v := .string ⟨#[]⟩) hh rfl
        obtain ⟨u1, uf1⟩ := cell_of_heap (i := 1) (v := .bool false) hh rfl
        have MF := Lib.hid (Mem.setAt [] (r := BlockA b7 #[.string swv, .bool swh] 52 :: RefA g (.slice sa sn sc) (.slice (some ⟨pb, off, none⟩) pn pc) r :: q) (i := 1) (Mem.setAt [] (r := BlockA b7 #[.string swv, .bool swh] 52 :: RefA g (.slice sa sn sc) (.slice (some ⟨pb, off, none⟩) pn pc) r :: q) (i := 0) MZ'.out (.string srv)) (.bool srh))
        have MF' : Hid (Mem w0 [] ((XF.setCell ⟨b8, 0, none⟩ (.string srv)).setCell ⟨b8, 1, none⟩ (.bool srh)) (BlockA b8 #[.string srv, .bool srh] 52 :: BlockA b7 #[.string swv, .bool swh] 52 :: RefA g (.slice sa sn sc) (.slice (some ⟨pb, off, none⟩) pn pc) r :: q)) := MF
        have MG : Hid (Mem w0 [] ((XF.setCell ⟨b8, 0, none⟩ (.string srv)).setCell ⟨b8, 1, none⟩ (.bool srh)) (RefA g (.slice sa sn sc) (.slice (some ⟨pb, off, none⟩) pn pc) r :: BlockA b8 #[.string srv, .bool srh] 52 :: BlockA b7 #[.string swv, .bool swh] 52 :: q)) := Lib.hid (Mem.swap [] (Mem.swap [BlockA b8 #[.string srv, .bool srh] 52] MF'.out))
        clear hh MZ MZ' MF MF'
        refine till_one 23 hM rfl (by kernel_rfl) (fun K hK => ?_)
        go_simp
        refine hK _ _ (fun h => absurd rfl h) (fun hM => ?_)
        clear hK K
        try simp only [Act.put, List.setIfInBounds_toArray, List.set_cons_zero, List.set_cons_succ]
        refine till_done (by kernel_rfl) ?_ _
        go_wp2_with fail
        go_meet
        case rel => exact ⟨b7, b8, rfl, rfl, MG⟩
    · go_simp
      refine hK _ _ (fun _ => HTS.out _ (bel_one hX0 _)) ?_
      clear hK K
      try simp only [Act.put, List.setIfInBounds_toArray, List.set_cons_zero, List.set_cons_succ]
      obtain ⟨X1, eX1⟩ : ∃ X1, X1 = X0.alloc (.cells #[.string ⟨#[]⟩, .bool false] 52) := ⟨_, rfl⟩
      have hX1 : Below wc.heap.size wc X1 := by rw [eX1]; exact bel_one hX0 _
      obtain ⟨b8, hb8⟩ : ∃ b8, b8 = X0.heap.size := ⟨_, rfl⟩
      have lb8 : wc.heap.size ≤ b8 := by rw [hb8]; exact hX0.size
      have MX1 : Hid (Mem w0 [] X1 (BlockA b8 #[.string ⟨#[]⟩, .bool false] 52 :: RefA g (.slice sa sn sc) (.slice (some ⟨pb, off, none⟩) pn pc) r :: q)) := Lib.hid (by rw [eX1, hb8]; exact MX0.out.block _ 52)
      rw [← eX1, ← hb8]
      clear eX1 hb8 MX0
      have hM := ClosedM.step hM 21 (by kernel_rfl)
      refine till_ready (rs := [16, 20]) (by kernel_rfl) (by simp) (EachTill.op rfl (fun K hK => ?_) (EachTill.op rfl (fun K hK => ?_) EachTill.nil))
      · go_simp
        go_at_call 38
        refine (HST.out _).mono ?_
        rintro e X2 ⟨rfl, hbx⟩
        have hX2 : Below wc.heap.size wc X2 := hX1.trans (hbx.mono hX1.size)
        have MX2 := Lib.hid (MX1.out.below hbx)
        clear hbx MX1
        refine hK _ _ (fun _ => HTS.out _ hX2) ?_
        clear hK K
        try simp only [Act.put, List.setIfInBounds_toArray, List.set_cons_zero, List.set_cons_succ]
        have hM := ClosedM.step hM 16 (by kernel_rfl)
        have hS := HTS.out _ hX2
        refine till_op (v := ?_) 17 [19] hM rfl (by kernel_rfl) (by kernel_rfl) (by kernel_rfl) (by kernel_rfl) rfl (fun _ _ _ h => h) (Or.inl ⟨by rfl, ?_⟩) hS (fun hM => ?_)
        rotate_left
        · intro W hSw
          (try dsimp only at hSw)
          go_simp
          try with_reducible rfl
        try simp only [Act.put, List.setIfInBounds_toArray, List.set_cons_zero, List.set_cons_succ]
        refine till_op (v := ?_) 18 [22] hM rfl (by kernel_rfl) (by kernel_rfl) (by kernel_rfl) (by kernel_rfl) rfl (fun _ _ _ h => h) (Or.inl ⟨by rfl, ?_⟩) hS (fun hM => ?_)
        rotate_left
        · intro W hSw
          (try dsimp only at hSw)
          go_simp
          try with_reducible rfl
        try simp only [Act.put, List.setIfInBounds_toArray, List.set_cons_zero, List.set_cons_succ]
        refine till_op (v := ?_) 19 [] hM rfl (by kernel_rfl) (by kernel_rfl) (by kernel_rfl) (by kernel_rfl) rfl (fun _ _ _ h => h) (Or.inl ⟨by rfl, ?_⟩) hS (fun hM => ?_)
        rotate_left
        · intro W hSw
          (try dsimp only at hSw)
          go_simp
          try with_reducible rfl
        try simp only [Act.put, List.setIfInBounds_toArray, List.set_cons_zero, List.set_cons_succ]
        clear hS
        refine till_ready (rs := [20]) (by kernel_rfl) (by simp) (EachTill.op rfl (fun K hK => ?_) EachTill.nil)
        go_simp
        refine hK _ _ (fun _ => HTS.out _ (bel_one hX2 _)) ?_
        clear hK K
        try simp only [Act.put, List.setIfInBounds_toArray, List.set_cons_zero, List.set_cons_succ]
        obtain ⟨X3, eX3⟩ : ∃ X3, X3 = X2.alloc (.cells #[.string ⟨#[]⟩, .bool false] 52) := ⟨_, rfl⟩
        have hX3 : Below wc.heap.size wc X3 := by rw [eX3]; exact bel_one hX2 _
        obtain ⟨b7, hb7⟩ : ∃ b7, b7 = X2.heap.size := ⟨_, rfl⟩
        have lb7 : wc.heap.size ≤ b7 := by rw [hb7]; exact hX2.size
        have MX3 : Hid (Mem w0 [] X3 (BlockA b7 #[.string ⟨#[]⟩, .bool false] 52 :: BlockA b8 #[.string ⟨#[]⟩, .bool false] 52 :: RefA g (.slice sa sn sc) (.slice (some ⟨pb, off, none⟩) pn pc) r :: q)) := Lib.hid (by rw [eX3, hb7]; exact MX2.out.block _ 52)
        rw [← eX3, ← hb7]
        clear eX3 hb7 MX2
        have hM := ClosedM.step hM 20 (by kernel_rfl)
        have hh := Mem.heapAt [] (r := BlockA b8 #[.string ⟨#[]⟩, .bool false] 52 :: RefA g (.slice sa sn sc) (.slice (some ⟨pb, off, none⟩) pn pc) r :: q) MX3.out
        obtain ⟨u0, uf0⟩ := cell_of_heap (i := 0) (v := .string ⟨#[]⟩) hh rfl
        obtain ⟨u1, uf1⟩ := cell_of_heap (i := 1) (v := .bool false) hh rfl
        have MZ := Lib.hid (Mem.setAt [] (r := BlockA b8 #[.string ⟨#[]⟩, .bool false] 52 :: RefA g (.slice sa sn sc) (.slice (some ⟨pb, off, none⟩) pn pc) r :: q) (i := 1) (Mem.setAt [] (r := BlockA b8 #[.string ⟨#[]⟩, .bool false] 52 :: RefA g (.slice sa sn sc) (.slice (some ⟨pb, off, none⟩) pn pc) r :: q) (i := 0) MX3.out (.string swv)) (.bool swh))
        have hbz : Below wc.heap.size wc ((X3.setCell ⟨b7, 0, none⟩ (.string swv)).setCell ⟨b7, 1, none⟩ (.bool swh)) := Below.setCell (Below.setCell hX3 lb7 _) lb7 _
        clear hh MX3
        refine till_one 22 hM rfl (by kernel_rfl) (fun K hK => ?_)
        go_simp
        refine hK _ _ (fun _ => HTS.out _ hbz) (fun hM => ?_)
        clear hK K u0 u1 uf0 uf1
        try simp only [Act.put, List.setIfInBounds_toArray, List.set_cons_zero, List.set_cons_succ]
        obtain ⟨XF, hXF⟩ : ∃ XF, XF = (X3.setCell ⟨b7, 0, none⟩ (.string swv)).setCell ⟨b7, 1, none⟩ (.bool swh) := ⟨_, rfl⟩
        rw [← hXF] at MZ hbz ⊢
        clear hXF
        have MZ' : Hid (Mem w0 [] XF (BlockA b7 #[.string swv, .bool swh] 52 :: BlockA b8 #[.string ⟨#[]⟩, .bool false] 52 :: RefA g (.slice sa sn sc) (.slice (some ⟨pb, off, none⟩) pn pc) r :: q)) := MZ
        have hh := Mem.heapAt [BlockA b7 #[.string swv, .bool swh] 52] (r := RefA g (.slice sa sn sc) (.slice (some ⟨pb, off, none⟩) pn pc) r :: q) MZ'.out
        obtain ⟨u0, uf0⟩ := cell_of_heap (i := 0) (v := .string ⟨#[]⟩) hh rfl
        obtain ⟨u1, uf1⟩ := cell_of_heap (i := 1) (v := .bool false) hh rfl
        have MF := Lib.hid (Mem.setAt [BlockA b7 #[.string swv, .bool swh] 52] (r := RefA g (.slice sa sn sc) (.slice (some ⟨pb, off, none⟩) pn pc) r :: q) (i := 1) (Mem.setAt [BlockA b7 #[.string swv, .bool swh] 52] (r := RefA g (.slice sa sn sc) (.slice (some ⟨pb, off, none⟩) pn pc) r :: q) (i := 0) MZ'.out (.string srv)) (.bool srh))
        have MF' : Hid (Mem w0 [] ((XF.setCell ⟨b8, 0, none⟩ (.string srv)).setCell ⟨b8, 1, none⟩ (.bool srh)) (BlockA b7 #[.string swv, .bool swh] 52 :: BlockA b8 #[.string srv, .bool srh] 52 :: RefA g (.slice sa sn sc) (.slice (some ⟨pb, off, none⟩) pn pc) r :: q)) := MF
        have MG : Hid (Mem w0 [] ((XF.setCell ⟨b8, 0, none⟩ (.string srv)).setCell ⟨b8, 1, none⟩ (.bool srh)) (RefA g (.slice sa sn sc) (.slice (some ⟨pb, off, none⟩) pn pc) r :: BlockA b8 #[.string srv, .bool srh] 52 :: BlockA b7 #[.string swv, .bool swh] 52 :: q)) := Lib.hid (Mem.swap [] (Mem.swap [BlockA b8 #[.string srv, .bool srh] 52] (Mem.swap [] MF'.out)))
        clear hh MZ MZ' MF MF'
        refine till_one 23 hM rfl (by kernel_rfl) (fun K hK => ?_)
        go_simp
        refine hK _ _ (fun h => absurd rfl h) (fun hM => ?_)
        clear hK K
        try simp only [Act.put, List.setIfInBounds_toArray, List.set_cons_zero, List.set_cons_succ]
        refine till_done (by kernel_rfl) ?_ _
        go_wp2_with fail
        go_meet
        case rel => exact ⟨b7, b8, rfl, rfl, MG⟩
      · go_simp
        refine hK _ _ (fun _ => HTS.out _ (bel_one hX1 _)) ?_
        clear hK K
        try simp only [Act.put, List.setIfInBounds_toArray, List.set_cons_zero, List.set_cons_succ]
        obtain ⟨X2, eX2⟩ : ∃ X2, X2 = X1.alloc (.cells #[.string ⟨#[]⟩, .bool false] 52) := ⟨_, rfl⟩
        have hX2 : Below wc.heap.size wc X2 := by rw [eX2]; exact bel_one hX1 _
        obtain ⟨b7, hb7⟩ : ∃ b7, b7 = X1.heap.size := ⟨_, rfl⟩
        have lb7 : wc.heap.size ≤ b7 := by rw [hb7]; exact hX1.size
        have MX2 : Hid (Mem w0 [] X2 (BlockA b7 #[.string ⟨#[]⟩, .bool false] 52 :: BlockA b8 #[.string ⟨#[]⟩, .bool false] 52 :: RefA g (.slice sa sn sc) (.slice (some ⟨pb, off, none⟩) pn pc) r :: q)) := Lib.hid (by rw [eX2, hb7]; exact MX1.out.block _ 52)
        rw [← eX2, ← hb7]
        clear eX2 hb7 MX1
        have hM := ClosedM.step hM 20 (by kernel_rfl)
        refine till_ready (rs := [16]) (by kernel_rfl) (by simp) (EachTill.op rfl (fun K hK => ?_) EachTill.nil)
        go_simp
        go_at_call 38
        refine (HST.out _).mono ?_
        rintro e X3 ⟨rfl, hbx⟩
        have hX3 : Below wc.heap.size wc X3 := hX2.trans (hbx.mono hX2.size)
        have MX3 := Lib.hid (MX2.out.below hbx)
        clear hbx MX2
        refine hK _ _ (fun _ => HTS.out _ hX3) ?_
        clear hK K
        try simp only [Act.put, List.setIfInBounds_toArray, List.set_cons_zero, List.set_cons_succ]
        have hM := ClosedM.step hM 16 (by kernel_rfl)
        have hS := HTS.out _ hX3
        refine till_op (v := ?_) 17 [19] hM rfl (by kernel_rfl) (by kernel_rfl) (by kernel_rfl) (by kernel_rfl) rfl (fun _ _ _ h => h) (Or.inl ⟨by rfl, ?_⟩) hS (fun hM => ?_)
        rotate_left
        · intro W hSw
          (try dsimp only at hSw)
          go_simp
          try with_reducible rfl
        try simp only [Act.put, List.setIfInBounds_toArray, List.set_cons_zero, List.set_cons_succ]
        refine till_op (v := ?_) 18 [22] hM rfl (by kernel_rfl) (by kernel_rfl) (by kernel_rfl) (by kernel_rfl) rfl (fun _ _ _ h => h) (Or.inl ⟨by rfl, ?_⟩) hS (fun hM => ?_)
        rotate_left
        · intro W hSw
          (try dsimp only at hSw)
          go_simp
          try with_reducible rfl
        try simp only [Act.put, List.setIfInBounds_toArray, List.set_cons_zero, List.set_cons_succ]
        refine till_op (v := ?_) 19 [] hM rfl (by kernel_rfl) (by kernel_rfl) (by kernel_rfl) (by kernel_rfl) rfl (fun _ _ _ h => h) (Or.inl ⟨by rfl, ?_⟩) hS (fun hM => ?_)
        rotate_left
        · intro W hSw
          (try dsimp only at hSw)
          go_simp
          try with_reducible rfl
        try simp only [Act.put, List.setIfInBounds_toArray, List.set_cons_zero, List.set_cons_succ]
        clear hS
        have hh := Mem.heapAt [] (r := BlockA b8 #[.string ⟨#[]⟩, .bool false] 52 :: RefA g (.slice sa sn sc) (.slice (some ⟨pb, off, none⟩) pn pc) r :: q) MX3.out
        obtain ⟨u0, uf0⟩ := cell_of_heap (i := 0) (v := .string ⟨#[]⟩) hh rfl
        obtain ⟨u1, uf1⟩ := cell_of_heap (i := 1) (v := .bool false) hh rfl
        have MZ := Lib.hid (Mem.setAt [] (r := BlockA b8 #[.string ⟨#[]⟩, .bool false] 52 :: RefA g (.slice sa sn sc) (.slice (some ⟨pb, off, none⟩) pn pc) r :: q) (i := 1) (Mem.setAt [] (r := BlockA b8 #[.string ⟨#[]⟩, .bool false] 52 :: RefA g (.slice sa sn sc) (.slice (some ⟨pb, off, none⟩) pn pc) r :: q) (i := 0) MX3.out (.string swv)) (.bool swh))
        have hbz : Below wc.heap.size wc ((X3.setCell ⟨b7, 0, none⟩ (.string swv)).setCell ⟨b7, 1, none⟩ (.bool swh)) := Below.setCell (Below.setCell hX3 lb7 _) lb7 _
        clear hh MX3
        refine till_one 22 hM rfl (by kernel_rfl) (fun K hK => ?_)
        go_simp
        refine hK _ _ (fun _ => HTS.out _ hbz) (fun hM => ?_)
        clear hK K u0 u1 uf0 uf1
        try simp only [Act.put, List.setIfInBounds_toArray, List.set_cons_zero, List.set_cons_succ]
        obtain ⟨XF, hXF⟩ : ∃ XF, XF = (X3.setCell ⟨b7, 0, none⟩ (.string swv)).setCell ⟨b7, 1, none⟩ (.bool swh) := ⟨_, rfl⟩
        rw [← hXF] at MZ hbz ⊢
        clear hXF
        have MZ' : Hid (Mem w0 [] XF (BlockA b7 #[.string swv, .bool swh] 52 :: BlockA b8 #[.string ⟨#[]⟩, .bool false] 52 :: RefA g (.slice sa sn sc) (.slice (some ⟨pb, off, none⟩) pn pc) r :: q)) := MZ
        have hh := Mem.heapAt [BlockA b7 #[.string swv, .bool swh] 52] (r := RefA g (.slice sa sn sc) (.slice (some ⟨pb, off, none⟩) pn pc) r :: q) MZ'.out
        obtain ⟨u0, uf0⟩ := cell_of_heap (i := 0) (v := .string ⟨#[]⟩) hh rfl
        obtain ⟨u1, uf1⟩ := cell_of_heap (i := 1) (v := .bool false) hh rfl
        have MF := Lib.hid (Mem.setAt [BlockA b7 #[.string swv, .bool swh] 52] (r := RefA g (.slice sa sn sc) (.slice (some ⟨pb, off, none⟩) pn pc) r :: q) (i := 1) (Mem.setAt [BlockA b7 #[.string swv, .bool swh] 52] (r := RefA g (.slice sa sn sc) (.slice (some ⟨pb, off, none⟩) pn pc) r :: q) (i := 0) MZ'.out (.string srv)) (.bool srh))
        have MF' : Hid (Mem w0 [] ((XF.setCell ⟨b8, 0, none⟩ (.string srv)).setCell ⟨b8, 1, none⟩ (.bool srh)) (BlockA b7 #[.string swv, .bool swh] 52 :: BlockA b8 #[.string srv, .bool srh] 52 :: RefA g (.slice sa sn sc) (.slice (some ⟨pb, off, none⟩) pn pc) r :: q)) := MF
        have MG : Hid (Mem w0 [] ((XF.setCell ⟨b8, 0, none⟩ (.string srv)).setCell ⟨b8, 1, none⟩ (.bool srh)) (RefA g (.slice sa sn sc) (.slice (some ⟨pb, off, none⟩) pn pc) r :: BlockA b8 #[.string srv, .bool srh] 52 :: BlockA b7 #[.string swv, .bool swh] 52 :: q)) := Lib.hid (Mem.swap [] (Mem.swap [BlockA b8 #[.string srv, .bool srh] 52] (Mem.swap [] MF'.out)))
        clear hh MZ MZ' MF MF'
        refine till_one 23 hM rfl (by kernel_rfl) (fun K hK => ?_)
        go_simp
        refine hK _ _ (fun h => absurd rfl h) (fun hM => ?_)
        clear hK K
        try simp only [Act.put, List.setIfInBounds_toArray, List.set_cons_zero, List.set_cons_succ]
        refine till_done (by kernel_rfl) ?_ _
        go_wp2_with fail
        go_meet
        case rel => exact ⟨b7, b8, rfl, rfl, MG⟩
  case rest =>
  obtain ⟨b7, b8, rfl, rfl, M3⟩ := hcut
  clear MX MY t4 t7 u0 u1 x2 x3 p0 p1 p2 p3 HST
  have hh := Mem.heapAt [RefA g (.slice sa sn sc) (.slice (some ⟨pb, off, none⟩) pn pc) r, BlockA b8 #[.string srv, .bool srh] 52] (r := q) M3.out
  have u0 := (cell_of_heap (i := 0) (v := .string swv) hh rfl).1
  have u1 := (cell_of_heap (i := 1) (v := .bool swh) hh rfl).1
  obtain ⟨ra1, rc1, hg1⟩ := Mem.refAt M3.out
  obtain ⟨t8, f8⟩ := rdC_cell hg1 8 _ rfl
  obtain ⟨t9, f9⟩ := rdC_cell hg1 9 _ rfl
  have M4 := Lib.hid (Mem.rWrite M3.out ⟨swv, swh⟩)
  clear hh hg1 M3
  go_upto_region 21 with (fail)
  simp only at M4
  obtain ⟨wr, hwr⟩ : ∃ wr, wr = (wc.setCell ⟨g, 8, none⟩ (.string swv)).setCell ⟨g, 9, none⟩ (.bool swh) := ⟨_, rfl⟩
  rw [← hwr] at M4 ⊢
  clear hwr u0 u1 t8 f8 t9 f9
  go_cut [] from 161 to 172 (fun wx => Hid (Mem w0 [] wx (RefA g (.slice sa sn sc) (.slice (some ⟨pb, off, none⟩) pn pc) { r with write := ⟨swv, swh⟩, res := r.res ++ [⟨srv, srh⟩] } :: q)))
  case first =>
    have hh := Mem.heapAt [RefA g (.slice sa sn sc) (.slice (some ⟨pb, off, none⟩) pn pc) { r with write := ⟨swv, swh⟩ }] (r := BlockA b7 #[.string swv, .bool swh] 52 :: q) M4.out
    have s0 := (cell_of_heap (i := 0) (v := .string srv) hh rfl).1
    have s1 := (cell_of_heap (i := 1) (v := .bool srh) hh rfl).1
    obtain ⟨ra, rc, MO⟩ := Mem.openR M4.out
    have MO1 := Lib.hid MO
    obtain ⟨hcw, hfw⟩ := rdC_cell (Mem.heapAt [] MO) 10 (.slice ra r.res.length rc) rfl
    have HRW := Lib.hid (Mem.rowAt [BlockA g (rdC { r with write := ⟨swv, swh⟩ } (.slice sa sn sc) (.slice (some ⟨pb, off, none⟩) pn pc) ra rc) 55] MO)
    have hplt := lt_of_heap (Mem.heapAt [] MO)
    simp only at hcw HRW
    have SUB1 : Hid (SubV wr 2 (.slice ra n rc) n (rsFlat r.res)) := Lib.hid (by
      have h := SubV.upto HRW.out (rsFlat_one r.res) (Nat.le_refl r.res.length)
      rw [List.take_of_length_le (by rw [rsFlat_len]; exact Nat.le_refl _)] at h
      rw [HNR.out]
      exact h)
    have HFIN : Hid (∀ V b c, Below wr.heap.size wr V → NewB wr b → Row V 52 2 b (0 + n + 1) c ([] ++ rsFlat r.res ++ [.string srv, .bool srh]) → Mem w0 [] (V.setCell ⟨g, 10, none⟩ (.slice b (n + 1) c)) (RefA g (.slice sa sn sc) (.slice (some ⟨pb, off, none⟩) pn pc) { r with write := ⟨swv, swh⟩, res := r.res ++ [⟨srv, srh⟩] } :: q)) := Lib.hid fun V b c hb hnb hrow => by
      have e1 : 0 + n + 1 = (r.res ++ [(⟨srv, srh⟩ : Rs)]).length := by rw [HNR.out]; simp
      have e2 : n + 1 = (r.res ++ [(⟨srv, srh⟩ : Rs)]).length := by rw [HNR.out]; simp
      rw [e1, List.nil_append, ← rsFlat_snoc r.res ⟨srv, srh⟩] at hrow
      rw [e2]
      have k1 := Mem.new MO1.out hb (As := [RowA 52 2 b (r.res ++ [(⟨srv, srh⟩ : Rs)]).length c (rsFlat (r.res ++ [⟨srv, srh⟩]))]) (all_one ⟨rfl, hrow⟩) hnb
      have k2 := Mem.setAt [RowA 52 2 b (r.res ++ [(⟨srv, srh⟩ : Rs)]).length c (rsFlat (r.res ++ [⟨srv, srh⟩]))] (i := 10) k1 (.slice b (r.res ++ [(⟨srv, srh⟩ : Rs)]).length c)
      have k3 := Mem.swap [] k2
      have k4 := Mem.drop [_, _] (A := RowA 52 2 ra r.res.length rc (rsFlat r.res)) k3
      have k5 := Mem.drop [_, _] (A := BlockA b8 #[.string srv, .bool srh] 52) k4
      have k6 := Mem.drop [_, _] (A := BlockA b7 #[.string swv, .bool swh] 52) (r := q) k5
      exact Mem.closeR (r := { r with write := ⟨swv, swh⟩, res := r.res ++ [⟨srv, srh⟩] }) (ra := b) (rc := c) k6
    rw [← HNR.out] at hcw
    clear hh MO MO1 HRW M4 HOP HRP HE HG10 HNR
    generalize r.res = rl at *
    have HTS : Hid (∀ W, Below wr.heap.size wr W → (W.cell? ⟨b8, 0, none⟩ = some (.string srv) ∧ W.cell? ⟨b8, 1, none⟩ = some (.bool srh)) ∧ W.cell? ⟨g, 10, none⟩ = some (.slice ra n rc)) := Lib.hid fun W hb => ⟨⟨(hb.cell (World.block_lt_of_cell? wr _ s0)).trans s0, (hb.cell (World.block_lt_of_cell? wr _ s1)).trans s1⟩, (hb.cell hplt).trans hcw⟩
    refine wp_region_till (fun W => (W.cell? ⟨b8, 0, none⟩ = some (.string srv) ∧ W.cell? ⟨b8, 1, none⟩ = some (.bool srh)) ∧ W.cell? ⟨g, 10, none⟩ = some (.slice ra n rc)) 12 (by kernel_rfl) (HTS.out _ (bel_two (Below.refl _ _))) (fun hM hS => ?_)
    refine till_op (v := ?_) 0 [10, 11] hM rfl (by kernel_rfl) (by kernel_rfl) (by kernel_rfl) (by kernel_rfl) rfl (fun _ _ _ h => h) (Or.inl ⟨by rfl, ?_⟩) hS (fun hM => ?_)
    rotate_left
    · intro W hSw
      (try dsimp only at hSw)
      go_simp
      try with_reducible rfl
    try simp only [Act.put, List.setIfInBounds_toArray, List.set_cons_zero, List.set_cons_succ]
    refine till_op (v := ?_) 2 [3, 4, 5, 6, 9] hM rfl (by kernel_rfl) (by kernel_rfl) (by kernel_rfl) (by kernel_rfl) rfl (fun _ _ _ h => h) (Or.inl ⟨by rfl, ?_⟩) hS (fun hM => ?_)
    rotate_left
    · intro W hSw
      (try dsimp only at hSw)
      go_simp
      try with_reducible rfl
    try simp only [Act.put, List.setIfInBounds_toArray, List.set_cons_zero, List.set_cons_succ]
    refine till_op (v := ?_) 3 [4, 5, 6, 9] hM rfl (by kernel_rfl) (by kernel_rfl) (by kernel_rfl) (by kernel_rfl) rfl (fun _ _ _ h => h) (Or.inl ⟨by rfl, ?_⟩) hS (fun hM => ?_)
    rotate_left
    · intro W hSw
      (try dsimp only at hSw)
      go_simp
      try with_reducible rfl
    try simp only [Act.put, List.setIfInBounds_toArray, List.set_cons_zero, List.set_cons_succ]
    refine till_op (v := ?_) 4 [5, 6, 9] hM rfl (by kernel_rfl) (by kernel_rfl) (by kernel_rfl) (by kernel_rfl) rfl (fun _ _ _ h => h) (Or.inl ⟨by rfl, ?_⟩) hS (fun hM => ?_)
    rotate_left
    · intro W hSw
      (try dsimp only at hSw)
      go_simp
      try with_reducible rfl
    try simp only [Act.put, List.setIfInBounds_toArray, List.set_cons_zero, List.set_cons_succ]
    refine till_op (v := ?_) 5 [6, 9] hM rfl (by kernel_rfl) (by kernel_rfl) (by kernel_rfl) (by kernel_rfl) rfl (fun _ _ _ h => h) (Or.inl ⟨by rfl, ?_⟩) hS (fun hM => ?_)
    rotate_left
    · intro W hSw
      (try dsimp only at hSw)
      go_simp
      try with_reducible rfl
    try simp only [Act.put, List.setIfInBounds_toArray, List.set_cons_zero, List.set_cons_succ]
    refine till_op (v := ?_) 7 [8, 9] hM rfl (by kernel_rfl) (by kernel_rfl) (by kernel_rfl) (by kernel_rfl) rfl (fun _ _ _ h => h) (Or.inl ⟨by rfl, ?_⟩) hS (fun hM => ?_)
    rotate_left
    · intro W hSw
      (try dsimp only at hSw)
      go_simp
      try with_reducible rfl
    try simp only [Act.put, List.setIfInBounds_toArray, List.set_cons_zero, List.set_cons_succ]
    refine till_ready (rs := [1, 8]) (by kernel_rfl) (by simp) (EachTill.op rfl (fun K hK => ?_) (EachTill.op rfl (fun K hK => ?_) EachTill.nil))
    · go_simp
      refine hK _ _ (fun _ => HTS.out _ (by (try go_split_ands); repeat (first | assumption | exact Below.refl _ _ | refine bel_one ?_ _ | refine bel_two ?_))) ?_
      clear hK K
      try simp only [Act.put, List.setIfInBounds_toArray, List.set_cons_zero, List.set_cons_succ]
      refine till_ready (rs := [6, 8]) (by kernel_rfl) (by simp) (EachTill.op rfl (fun K hK => ?_) (EachTill.op rfl (fun K hK => ?_) EachTill.nil))
      · refine step_chain (P := Tryd.prog) (t := 53) (e := 52) (k := 2) (by' := 24) Tryd.underlying53 infoRs rfl (Nat.succ_pos 1) (Nat.le_of_ble_eq_true rfl) rfl (.tmp 162) (.tmp 166) rfl (b := some ⟨wr.heap.size, 0, none⟩) (n := 0) (c := 0) (m := n) (xs := []) (ys := rsFlat rl) (sv := .slice ra n rc) ?_ ?_ ?_ ?_ ?_ ?_
        · simp [Act.eval]
        · simp [Act.eval]
        · exact row_empty (by first | exact heap_new _ _ | exact hp_old _ _ _ _ (by simp) (heap_new _ _) | exact heap_alloc_at _ _ _ (by simp))
        · exact SUB1.out.below (by (try go_split_ands); repeat (first | assumption | exact Below.refl _ _ | refine bel_one ?_ _ | refine bel_two ?_))
        · omega
        intro b1 c1 V1 hr1 ht1 hf1
        have hn1 : NewB wr b1 := (NewB.lit (wr := wr) (g := wr.heap.size) (by omega)).next (_w' := V1) (by (try go_split_ands); repeat (first | assumption | exact Below.refl _ _ | refine bel_one ?_ _ | refine bel_two ?_)) hf1
        have hV1 : Below wr.heap.size wr V1 := (NewB.lit (wr := wr) (g := wr.heap.size) (by omega)).bel (by (try go_split_ands); repeat (first | assumption | exact Below.refl _ _ | refine bel_one ?_ _ | refine bel_two ?_)) ht1
        refine hK _ _ (fun _ => HTS.out _ (by (try go_split_ands); repeat (first | assumption | exact Below.refl _ _ | refine bel_one ?_ _ | refine bel_two ?_))) ?_
        clear hK K
        try simp only [Act.put, List.setIfInBounds_toArray, List.set_cons_zero, List.set_cons_succ]
        refine till_ready (rs := [8]) (by kernel_rfl) (by simp) (EachTill.op rfl (fun K hK => ?_) EachTill.nil)
        go_simp
        refine hK _ _ (fun _ => HTS.out _ (by (try go_split_ands); repeat (first | assumption | exact Below.refl _ _ | refine bel_one ?_ _ | refine bel_two ?_))) ?_
        clear hK K
        try simp only [Act.put, List.setIfInBounds_toArray, List.set_cons_zero, List.set_cons_succ]
        refine till_ready (rs := [9]) (by kernel_rfl) (by simp) (EachTill.op rfl (fun K hK => ?_) EachTill.nil)
        refine step_chain (P := Tryd.prog) (t := 53) (e := 52) (k := 2) (by' := 24) Tryd.underlying53 infoRs rfl (Nat.succ_pos 1) (Nat.le_of_ble_eq_true rfl) rfl (.tmp 167) (.tmp 169) rfl (b := b1) (n := 0 + n) (c := c1) (m := 1) (xs := [] ++ rsFlat rl) (ys := [.string srv, .bool srh]) (sv := .slice (some ⟨V1.heap.size, 0, none⟩) 1 1) ?_ ?_ ?_ ?_ ?_ ?_
        · simp [Act.eval]
        · simp [Act.eval]
        · exact hr1.below (bel_new _ _)
        · exact SubV.one (T := 52) (vs := [.string srv, .bool srh]) (by first | exact heap_new _ _ | exact hp_old _ _ _ _ (by simp) (heap_new _ _) | exact heap_alloc_at _ _ _ (by simp)) rfl (by simp [Value.oneCell'])
        · omega
        intro b2 c2 V2 hr2 ht2 hf2
        have hn2 : NewB wr b2 := hn1.next (_w' := V2) (by (try go_split_ands); repeat (first | assumption | exact Below.refl _ _ | refine bel_one ?_ _ | refine bel_two ?_)) hf2
        have hV2 : Below wr.heap.size wr V2 := hn1.bel (by (try go_split_ands); repeat (first | assumption | exact Below.refl _ _ | refine bel_one ?_ _ | refine bel_two ?_)) ht2
        have hcx3 := (hV2.cell hplt).trans hcw
        have hfx3 := (hV2.frozen hplt).trans hfw
        refine hK _ _ (fun _ => HTS.out _ (by (try go_split_ands); repeat (first | assumption | exact Below.refl _ _ | refine bel_one ?_ _ | refine bel_two ?_))) ?_
        clear hK K
        try simp only [Act.put, List.setIfInBounds_toArray, List.set_cons_zero, List.set_cons_succ]
        refine till_ready (rs := [10]) (by kernel_rfl) (by simp) (EachTill.op rfl (fun K hK => ?_) EachTill.nil)
        go_simp
        refine hK _ _ (fun _ => HTS.out _ (by (try go_split_ands); repeat (first | assumption | exact Below.refl _ _ | refine bel_one ?_ _ | refine bel_two ?_))) ?_
        clear hK K
        try simp only [Act.put, List.setIfInBounds_toArray, List.set_cons_zero, List.set_cons_succ]
        refine till_ready (rs := [11]) (by kernel_rfl) (by simp) (EachTill.op rfl (fun K hK => ?_) EachTill.nil)
        go_simp
        refine hK _ _ (fun _ => HTS.out _ (by (try go_split_ands); repeat (first | assumption | exact Below.refl _ _ | refine bel_one ?_ _ | refine bel_two ?_))) ?_
        clear hK K
        try simp only [Act.put, List.setIfInBounds_toArray, List.set_cons_zero, List.set_cons_succ]
        refine till_ready (rs := [12]) (by kernel_rfl) (by simp) (EachTill.op rfl (fun K hK => ?_) EachTill.nil)
        go_simp
        refine hK _ _ (fun h => absurd rfl h) ?_
        clear hK K
        try simp only [Act.put, List.setIfInBounds_toArray, List.set_cons_zero, List.set_cons_succ]
        refine till_done (by kernel_rfl) ?_ _
        have HF := Lib.hid (HFIN.out V2 b2 c2 hV2 hn2 hr2)
        clear hr1 hr2 hn1 hn2 ht1 ht2 hf1 hf2 hV1 hV2 hcx3 hfx3 hS HTS SUB1
        go_wp2_with fail
        go_meet
        case rel => exact HF
      · go_simp
        refine hK _ _ (fun _ => HTS.out _ (by (try go_split_ands); repeat (first | assumption | exact Below.refl _ _ | refine bel_one ?_ _ | refine bel_two ?_))) ?_
        clear hK K
        try simp only [Act.put, List.setIfInBounds_toArray, List.set_cons_zero, List.set_cons_succ]
        refine till_ready (rs := [6]) (by kernel_rfl) (by simp) (EachTill.op rfl (fun K hK => ?_) EachTill.nil)
        refine step_chain (P := Tryd.prog) (t := 53) (e := 52) (k := 2) (by' := 24) Tryd.underlying53 infoRs rfl (Nat.succ_pos 1) (Nat.le_of_ble_eq_true rfl) rfl (.tmp 162) (.tmp 166) rfl (b := some ⟨wr.heap.size, 0, none⟩) (n := 0) (c := 0) (m := n) (xs := []) (ys := rsFlat rl) (sv := .slice ra n rc) ?_ ?_ ?_ ?_ ?_ ?_
        · simp [Act.eval]
        · simp [Act.eval]
        · exact row_empty (by first | exact heap_new _ _ | exact hp_old _ _ _ _ (by simp) (heap_new _ _) | exact heap_alloc_at _ _ _ (by simp))
        · exact SUB1.out.below (by (try go_split_ands); repeat (first | assumption | exact Below.refl _ _ | refine bel_one ?_ _ | refine bel_two ?_))
        · omega
        intro b1 c1 V1 hr1 ht1 hf1
        have hn1 : NewB wr b1 := (NewB.lit (wr := wr) (g := wr.heap.size) (by omega)).next (_w' := V1) (by (try go_split_ands); repeat (first | assumption | exact Below.refl _ _ | refine bel_one ?_ _ | refine bel_two ?_)) hf1
        have hV1 : Below wr.heap.size wr V1 := (NewB.lit (wr := wr) (g := wr.heap.size) (by omega)).bel (by (try go_split_ands); repeat (first | assumption | exact Below.refl _ _ | refine bel_one ?_ _ | refine bel_two ?_)) ht1
        refine hK _ _ (fun _ => HTS.out _ (by (try go_split_ands); repeat (first | assumption | exact Below.refl _ _ | refine bel_one ?_ _ | refine bel_two ?_))) ?_
        clear hK K
        try simp only [Act.put, List.setIfInBounds_toArray, List.set_cons_zero, List.set_cons_succ]
        refine till_ready (rs := [9]) (by kernel_rfl) (by simp) (EachTill.op rfl (fun K hK => ?_) EachTill.nil)
        refine step_chain (P := Tryd.prog) (t := 53) (e := 52) (k := 2) (by' := 24) Tryd.underlying53 infoRs rfl (Nat.succ_pos 1) (Nat.le_of_ble_eq_true rfl) rfl (.tmp 167) (.tmp 169) rfl (b := b1) (n := 0 + n) (c := c1) (m := 1) (xs := [] ++ rsFlat rl) (ys := [.string srv, .bool srh]) (sv := .slice (some ⟨wr.heap.size + 1, 0, none⟩) 1 1) ?_ ?_ ?_ ?_ ?_ ?_
        · simp [Act.eval]
        · simp [Act.eval]
        · exact hr1
        · exact SubV.one (T := 52) (vs := [.string srv, .bool srh]) (ht1.heap (by first | exact heap_new _ _ | exact hp_old _ _ _ _ (by simp) (heap_new _ _) | exact heap_alloc_at _ _ _ (by simp)) (by simp [blkOf])) rfl (by simp [Value.oneCell'])
        · omega
        intro b2 c2 V2 hr2 ht2 hf2
        have hn2 : NewB wr b2 := hn1.next (_w' := V2) (by (try go_split_ands); repeat (first | assumption | exact Below.refl _ _ | refine bel_one ?_ _ | refine bel_two ?_)) hf2
        have hV2 : Below wr.heap.size wr V2 := hn1.bel (by (try go_split_ands); repeat (first | assumption | exact Below.refl _ _ | refine bel_one ?_ _ | refine bel_two ?_)) ht2
        have hcx3 := (hV2.cell hplt).trans hcw
        have hfx3 := (hV2.frozen hplt).trans hfw
        refine hK _ _ (fun _ => HTS.out _ (by (try go_split_ands); repeat (first | assumption | exact Below.refl _ _ | refine bel_one ?_ _ | refine bel_two ?_))) ?_
        clear hK K
        try simp only [Act.put, List.setIfInBounds_toArray, List.set_cons_zero, List.set_cons_succ]
        refine till_ready (rs := [10]) (by kernel_rfl) (by simp) (EachTill.op rfl (fun K hK => ?_) EachTill.nil)
        go_simp
        refine hK _ _ (fun _ => HTS.out _ (by (try go_split_ands); repeat (first | assumption | exact Below.refl _ _ | refine bel_one ?_ _ | refine bel_two ?_))) ?_
        clear hK K
        try simp only [Act.put, List.setIfInBounds_toArray, List.set_cons_zero, List.set_cons_succ]
        refine till_ready (rs := [11]) (by kernel_rfl) (by simp) (EachTill.op rfl (fun K hK => ?_) EachTill.nil)
        go_simp
        refine hK _ _ (fun _ => HTS.out _ (by (try go_split_ands); repeat (first | assumption | exact Below.refl _ _ | refine bel_one ?_ _ | refine bel_two ?_))) ?_
        clear hK K
        try simp only [Act.put, List.setIfInBounds_toArray, List.set_cons_zero, List.set_cons_succ]
        refine till_ready (rs := [12]) (by kernel_rfl) (by simp) (EachTill.op rfl (fun K hK => ?_) EachTill.nil)
        go_simp
        refine hK _ _ (fun h => absurd rfl h) ?_
        clear hK K
        try simp only [Act.put, List.setIfInBounds_toArray, List.set_cons_zero, List.set_cons_succ]
        refine till_done (by kernel_rfl) ?_ _
        have HF := Lib.hid (HFIN.out V2 b2 c2 hV2 hn2 hr2)
        clear hr1 hr2 hn1 hn2 ht1 ht2 hf1 hf2 hV1 hV2 hcx3 hfx3 hS HTS SUB1
        go_wp2_with fail
        go_meet
        case rel => exact HF
    · go_simp
      refine hK _ _ (fun _ => HTS.out _ (by (try go_split_ands); repeat (first | assumption | exact Below.refl _ _ | refine bel_one ?_ _ | refine bel_two ?_))) ?_
      clear hK K
      try simp only [Act.put, List.setIfInBounds_toArray, List.set_cons_zero, List.set_cons_succ]
      refine till_ready (rs := [1]) (by kernel_rfl) (by simp) (EachTill.op rfl (fun K hK => ?_) EachTill.nil)
      go_simp
      refine hK _ _ (fun _ => HTS.out _ (by (try go_split_ands); repeat (first | assumption | exact Below.refl _ _ | refine bel_one ?_ _ | refine bel_two ?_))) ?_
      clear hK K
      try simp only [Act.put, List.setIfInBounds_toArray, List.set_cons_zero, List.set_cons_succ]
      refine till_ready (rs := [6]) (by kernel_rfl) (by simp) (EachTill.op rfl (fun K hK => ?_) EachTill.nil)
      refine step_chain (P := Tryd.prog) (t := 53) (e := 52) (k := 2) (by' := 24) Tryd.underlying53 infoRs rfl (Nat.succ_pos 1) (Nat.le_of_ble_eq_true rfl) rfl (.tmp 162) (.tmp 166) rfl (b := some ⟨wr.heap.size + 1, 0, none⟩) (n := 0) (c := 0) (m := n) (xs := []) (ys := rsFlat rl) (sv := .slice ra n rc) ?_ ?_ ?_ ?_ ?_ ?_
      · simp [Act.eval]
      · simp [Act.eval]
      · exact row_empty (by first | exact heap_new _ _ | exact hp_old _ _ _ _ (by simp) (heap_new _ _) | exact heap_alloc_at _ _ _ (by simp))
      · exact SUB1.out.below (by (try go_split_ands); repeat (first | assumption | exact Below.refl _ _ | refine bel_one ?_ _ | refine bel_two ?_))
      · omega
      intro b1 c1 V1 hr1 ht1 hf1
      have hn1 : NewB wr b1 := (NewB.lit (wr := wr) (g := wr.heap.size + 1) (by omega)).next (_w' := V1) (by (try go_split_ands); repeat (first | assumption | exact Below.refl _ _ | refine bel_one ?_ _ | refine bel_two ?_)) hf1
      have hV1 : Below wr.heap.size wr V1 := (NewB.lit (wr := wr) (g := wr.heap.size + 1) (by omega)).bel (by (try go_split_ands); repeat (first | assumption | exact Below.refl _ _ | refine bel_one ?_ _ | refine bel_two ?_)) ht1
      refine hK _ _ (fun _ => HTS.out _ (by (try go_split_ands); repeat (first | assumption | exact Below.refl _ _ | refine bel_one ?_ _ | refine bel_two ?_))) ?_
      clear hK K
      try simp only [Act.put, List.setIfInBounds_toArray, List.set_cons_zero, List.set_cons_succ]
      refine till_ready (rs := [9]) (by kernel_rfl) (by simp) (EachTill.op rfl (fun K hK => ?_) EachTill.nil)
      refine step_chain (P := Tryd.prog) (t := 53) (e := 52) (k := 2) (by' := 24) Tryd.underlying53 infoRs rfl (Nat.succ_pos 1) (Nat.le_of_ble_eq_true rfl) rfl (.tmp 167) (.tmp 169) rfl (b := b1) (n := 0 + n) (c := c1) (m := 1) (xs := [] ++ rsFlat rl) (ys := [.string srv, .bool srh]) (sv := .slice (some ⟨wr.heap.size, 0, none⟩) 1 1) ?_ ?_ ?_ ?_ ?_ ?_
      · simp [Act.eval]
      · simp [Act.eval]
      · exact hr1
      · exact SubV.one (T := 52) (vs := [.string srv, .bool srh]) (ht1.heap (by first | exact heap_new _ _ | exact hp_old _ _ _ _ (by simp) (heap_new _ _) | exact heap_alloc_at _ _ _ (by simp)) (by simp [blkOf])) rfl (by simp [Value.oneCell'])
      · omega
      intro b2 c2 V2 hr2 ht2 hf2
      have hn2 : NewB wr b2 := hn1.next (_w' := V2) (by (try go_split_ands); repeat (first | assumption | exact Below.refl _ _ | refine bel_one ?_ _ | refine bel_two ?_)) hf2
      have hV2 : Below wr.heap.size wr V2 := hn1.bel (by (try go_split_ands); repeat (first | assumption | exact Below.refl _ _ | refine bel_one ?_ _ | refine bel_two ?_)) ht2
      have hcx3 := (hV2.cell hplt).trans hcw
      have hfx3 := (hV2.frozen hplt).trans hfw
      refine hK _ _ (fun _ => HTS.out _ (by (try go_split_ands); repeat (first | assumption | exact Below.refl _ _ | refine bel_one ?_ _ | refine bel_two ?_))) ?_
      clear hK K
      try simp only [Act.put, List.setIfInBounds_toArray, List.set_cons_zero, List.set_cons_succ]
      refine till_ready (rs := [10]) (by kernel_rfl) (by simp) (EachTill.op rfl (fun K hK => ?_) EachTill.nil)
      go_simp
      refine hK _ _ (fun _ => HTS.out _ (by (try go_split_ands); repeat (first | assumption | exact Below.refl _ _ | refine bel_one ?_ _ | refine bel_two ?_))) ?_
      clear hK K
      try simp only [Act.put, List.setIfInBounds_toArray, List.set_cons_zero, List.set_cons_succ]
      refine till_ready (rs := [11]) (by kernel_rfl) (by simp) (EachTill.op rfl (fun K hK => ?_) EachTill.nil)
      go_simp
      refine hK _ _ (fun _ => HTS.out _ (by (try go_split_ands); repeat (first | assumption | exact Below.refl _ _ | refine bel_one ?_ _ | refine bel_two ?_))) ?_
      clear hK K
      try simp only [Act.put, List.setIfInBounds_toArray, List.set_cons_zero, List.set_cons_succ]
      refine till_ready (rs := [12]) (by kernel_rfl) (by simp) (EachTill.op rfl (fun K hK => ?_) EachTill.nil)
      go_simp
      refine hK _ _ (fun h => absurd rfl h) ?_
      clear hK K
      try simp only [Act.put, List.setIfInBounds_toArray, List.set_cons_zero, List.set_cons_succ]
      refine till_done (by kernel_rfl) ?_ _
      have HF := Lib.hid (HFIN.out V2 b2 c2 hV2 hn2 hr2)
      clear hr1 hr2 hn1 hn2 ht1 ht2 hf1 hf2 hV1 hV2 hcx3 hfx3 hS HTS SUB1
      go_wp2_with fail
      go_meet
      case rel => exact HF

  case rest =>
  clear M4
  obtain ⟨p0, p1, p2, p3⟩ := HOP.out _ hcut.out.bel
  obtain ⟨t0, t1, t3, t4, t5, t6, t7, t8, t9, t11, t12, tg⟩ := Mem.rdAt hcut.out
  have f6 := (Mem.rdFz hcut.out).1
  simp only at t6 t7
  rw [hj] at t7
  have hi0 : (0 : Int) ≤ (j : Int) := by omega
  have hil : (j : Int) < (pn : Int) := by omega
  clear t0 t1 t3 t5 t8 t9 t11 t12 tg p1 p2 p3 HOP HG10
  go_upto_region 22 with (fail)
  go_quiet (fail)
  have M5 := Lib.hid (hcut.out.below (bel_drewN _ nq))
  obtain ⟨t0, t1, t3, t4', t5, t6', t7', t8, t9, t11, t12, tg⟩ := Mem.rdAt M5.out
  have f6' := (Mem.rdFz M5.out).1
  simp only at t6' t7'
  rw [hj] at t7'
  generalize wc.drewN nq = W9 at *
  clear hcut t0 t1 t3 t4 t4' t5 t6 t7 t8 t9 t11 t12 tg p0 f6
  by_cases k1 : okd = 1
  · subst k1
    rw [if_pos rfl] at HE
    have H1 := Lib.hid (HRP.out _ (j + 1) _ M5.out (by omega))
    rw [show ((j + 1 : Nat) : Int) = (j : Int) + 1 by omega] at H1
    have hw := IntWalk.i64_in ((j : Int) + 1) (by omega)
    clear HRP M5
    generalize opR l { r with write := ⟨swv, swh⟩, res := r.res ++ [⟨srv, srh⟩] } (j + 1) = r9 at *
    go_wp2_with fail
    refine H1.out.mono ?_
    rintro e w1 ⟨rfl, hm⟩
    have HF := Lib.hid hm
    clear hm H1
    go_wp2_with fail
    go_end0
    refine ⟨rfl, ?_⟩
    rw [HE.out]
    exact HF.out
  · have b1 : (okd == 1) = false := by simpa using k1
    rw [if_neg k1] at HE
    clear HRP k1
    go_wp2_with fail
    go_end0
    refine ⟨rfl, ?_⟩
    rw [HE.out]
    exact Mem.rAsk M5.out 4
/-- Tell, whatever it asks for. -/
theorem rtell_any {d : Dr} (p : Rep) (M : Mem w0 [] w (RefA g (.slice sa sn sc) (.slice pa pn pc) r :: q)) (hs : StrsAt w0 sa sn ss) (hl : OpsAt w0 pa pn l) (h7 : sn ≤ 7) (hn : pn ≤ 1000) (hR : Rel ss l d r) (hB : Base ss l d) (hpl : planErr l = 0) (hp : d.phase ≠ 8) (hpv : p.v.size ≤ 140737488355328) :
    Calls Tryd.prog 16 #[.pointer (some ⟨g, 0, none⟩), Rep.val p] w fun e w' => e = .returned (.tuple #[]) ∧ Mem w0 [] w' (RefA g (.slice sa sn sc) (.slice pa pn pc) (tellR ss l r p) :: q) := by
  have ha : -1 ≤ r.attempt ∧ r.attempt ≤ 1048576 := by have := hB.ok.att; have := hR.att; omega
  have hln := hl.1
  have hle := hB.ok.len
  have hrl := hB.ok.reslen
  have hnl := hB.ok.nlen
  have hres := hR.res
  have hib := hR.ib
  rcases askN_ph hR.asks hB.ok.ph0 hB.ok.ph8 with ⟨hk, hd⟩ | ⟨hk, hd⟩ | ⟨hk, hd⟩ | ⟨hk, hd⟩ | ⟨hk, hd⟩ | ⟨hk, hd⟩ | ⟨hk, hd⟩ | ⟨hk, hd⟩ | ⟨hk, hd⟩
  · exact absurd hd hp
  · exact rtell1 p M hs hl h7 hn ha hk
  · exact rtell2 p M hs hl h7 hn ha hk
  · exact rtell8 p M hs hl h7 hn ha hk
  · obtain ⟨e, o, ho, h6⟩ := hR.nth (by omega)
    by_cases h0 : p.code = 0
    · exact rtell_get p M hl hn hk (by omega) hib.2 (by rw [hres]; have := hB.r1 (by omega); omega) hpl (fun o' ho' => by
        rw [show r.i.toNat = d.nth by omega, ho] at ho'
        cases ho'
        exact h6) hpv h0
    · exact rtell3 p M hs hl h7 hn ha hk h0
  · obtain ⟨e, o, ho, h6⟩ := hR.nth (by omega)
    exact rtell4 p M hs hl h7 hn ha hk (by omega) hib.2
  · exact rtell5 p M hs hl h7 hn ha hk
  · exact rtell6 p M hs hl h7 hn ha hk
  · obtain ⟨t0, ht⟩ := hR.left hd
    have hne := hB.ok.left hd
    have hlt : r.told.toNat < (touchR ss l r.i).length := by
      rcases Nat.lt_or_ge r.told.toNat (touchR ss l r.i).length with h | h
      · exact h
      · rw [List.drop_eq_nil_of_le h] at ht; exact absurd ht hne
    have := touchR_len ss l r.i
    have := hs.1
    exact rtell7 p M hs hl h7 hn ha hk t0 (by omega)
/-- Next, whatever it asks for. -/
theorem rnext_any {d : Dr} (M : Mem w0 [] w (RefA g (.slice sa sn sc) (.slice pa pn pc) r :: q)) (hs : StrsAt w0 sa sn ss) (hl : OpsAt w0 pa pn l) (h7 : sn ≤ 7) (hn : pn ≤ 1000) (hR : Rel ss l d r) (hB : Base ss l d) :
    Calls Tryd.prog 15 #[.pointer (some ⟨g, 0, none⟩)] w fun e w' => e = rnE ss l r ∧ Below w.heap.size w w' := by
  have hib := hR.ib
  have htx : 0 ≤ r.tx := by have := hB.ok.tx; have := hR.tx; omega
  rcases askN_ph hR.asks hB.ok.ph0 hB.ok.ph8 with ⟨hk, hd⟩ | ⟨hk, hd⟩ | ⟨hk, hd⟩ | ⟨hk, hd⟩ | ⟨hk, hd⟩ | ⟨hk, hd⟩ | ⟨hk, hd⟩ | ⟨hk, hd⟩ | ⟨hk, hd⟩
  · exact rnext0 M hs hl h7 hn htx hk
  · exact rnext1 M hs hl h7 hn htx hk
  · obtain ⟨e, -⟩ := hR.nth (by omega)
    exact rnext2 M hs hl h7 hn htx hk (by omega) hib.2
  · exact rnext8 M hs hl h7 hn htx hk
  · obtain ⟨e, -⟩ := hR.nth (by omega)
    exact rnext3 M hs hl h7 hn htx hk (by omega) hib.2
  · obtain ⟨e, -⟩ := hR.nth (by omega)
    exact rnext4 M hs hl h7 hn htx hk (by omega) hib.2
  · exact rnext5 M hs hl h7 hn htx hk
  · exact rnext6 M hs hl h7 hn htx hk
  · obtain ⟨t0, ht⟩ := hR.left hd
    have hne := hB.ok.left hd
    have hlt : r.told.toNat < (touchR ss l r.i).length := by
      rcases Nat.lt_or_ge r.told.toNat (touchR ss l r.i).length with h | h
      · exact h
      · rw [List.drop_eq_nil_of_le h] at ht; exact absurd ht hne
    exact rnext7 M hs hl h7 hn htx hk t0 (by omega)
end
end Go.Proofs.YtmifgnibalbgjaaDoor
