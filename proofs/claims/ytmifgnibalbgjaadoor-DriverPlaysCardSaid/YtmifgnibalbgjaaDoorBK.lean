/- What DriverPlays needs besides: the document's New, equal results, the answers that it is told. -/
import Derived.Test.YtmifgnibalbgjaaDoorBJ
import Derived.Test.YtmifgnibalbgjaaDoorZ
namespace Go.Proofs.YtmifgnibalbgjaaDoor
open Go.RowKit
theorem told_tx (ss : List ByteArray) (l : List Opp) (d : Dr) (p : Rep) : (toldM ss l d p).tx = d.tx := by
  have hb : ∀ (e : Dr) (i : Nat), (beginsM ss l e i).tx = e.tx := fun e i => (begins_spec i).1.tx
  have hbe : ∀ e : Dr, (behindM e).tx = e.tx := fun e => by
    unfold behindM
    split
    · rfl
    · split <;> rfl
  have he : ∀ (e : Dr) (s : Int), (endsM e s).tx = e.tx := fun e s => by
    unfold endsM
    split
    · exact hbe _
    · rfl
  have hg : (gotM ss l d p).tx = d.tx := by
    unfold gotM
    split
    · rfl
    · simp only
      split
      · rfl
      · exact hb _ _
  unfold toldM
  split
  · unfold accessedM
    split
    · rfl
    · split
      · rfl
      · split
        · rfl
        · split
          · rfl
          · split
            · exact hg
            · exact hb _ _
  · split
    · split
      · split
        · exact hbe _
        · rfl
      · rfl
    · unfold homedM
      split
      · exact he _ _
      · split
        · exact hb _ _
        · split
          · exact he _ _
          · split
            · rfl
            · split
              · exact he _ _
              · rfl
theorem rel_new {ss : List ByteArray} {l : List Opp} {tx stamp tries : Int} : Rel ss l (drNew tx stamp tries) ⟨tx, stamp, tries, 0, 1, -1, rs0, [], 0, 0, false⟩ :=
  ⟨rfl, rfl, rfl, rfl, rfl, rfl, rfl, by simp only; omega, fun _ => rfl, fun h => by simp only [drNew] at h; omega, fun h => by simp only [drNew] at h; omega, fun _ => (touchR_none ss l).symm, fun _ => rfl, fun h => by simp only [drNew] at h; omega, fun h => by simp only [drNew] at h; omega, fun h => by simp only [drNew] at h; omega⟩
section
variable {w0 w : World} {q : List Asn} [Stables q] {sa pa : Option Addr} {sn sc pn pc : Nat}
set_option maxRecDepth 100000 in
set_option maxHeartbeats 4000000 in
theorem rnew_any (tx stamp tries : Int) (M : Mem w0 [] w q) :
    Calls Tryd.prog 14 #[.int .i64 tx, .int .i64 stamp, .slice sa sn sc, .slice pa pn pc, .int .i64 tries] w fun e w' => ∃ g, e = .returned (.pointer (some ⟨g, 0, none⟩)) ∧ Mem w0 [] w' (RefA g (.slice sa sn sc) (.slice pa pn pc) ⟨tx, stamp, tries, 0, 1, -1, rs0, [], 0, 0, false⟩ :: q) := by
  have h1 := M.block (rdC ⟨tx, stamp, tries, 0, 1, -1, rs0, [], 0, 0, false⟩ (.slice sa sn sc) (.slice pa pn pc) none 0) 55
  have h2 := Mem.nilRow (L := [BlockA w.heap.size (rdC ⟨tx, stamp, tries, 0, 1, -1, rs0, [], 0, 0, false⟩ (.slice sa sn sc) (.slice pa pn pc) none 0) 55]) 52 2 h1
  have h3 := Lib.hid (Mem.closeR (r := ⟨tx, stamp, tries, 0, 1, -1, rs0, [], 0, 0, false⟩) (ra := none) (rc := 0) h2)
  clear h1 h2 M
  go_enter Tryd.func14, Tryd.ntmps14
  go_wp2_with fail
  go_ret
  exact ⟨_, rfl, h3.out⟩
set_option maxRecDepth 100000 in
set_option maxHeartbeats 4000000 in
theorem sameRs_any (a b : Option Addr) (n c c2 : Nat) (rl : List Rs) (w : World) (ha : Row w 52 2 a n c (rsFlat rl)) (hb : Row w 52 2 b n c2 (rsFlat rl)) (hn : n = rl.length) (hn2 : n ≤ 100000) :
    Calls Tryd.prog 19 #[.slice a n c, .slice b n c2] w fun e w' => e = .returned (.bool true) ∧ Below w.heap.size w w' := by
  have HA := Lib.hid ha
  have HB := Lib.hid hb
  have HN := Lib.hid hn
  clear ha hb hn
  go_enter Tryd.func19, Tryd.ntmps19
  go_wp2_with fail
  go_loopw [13] (fun jv wr => ∃ k : Nat, k ≤ n ∧ jv = .int .i64 (k : Nat) ∧ Hid (Below w.heap.size w wr)) (fun jv _ => n - (intOf jv).toNat)
  case atStart => exact ⟨0, Nat.zero_le _, rfl, Lib.hid (Below.refl _ _)⟩
  case round =>
    obtain ⟨W3, rfl⟩ : ∃ W3, W3 = wr := ⟨_, rfl⟩
    obtain ⟨k, hk, rfl, HB3⟩ := hrel
    by_cases hlt : k < n
    · have hkl : k < rl.length := by have := HN.out; omega
      obtain ⟨ga, rfl, x0, x1⟩ := rsAt_row (HA.out.below HB3.out) k hkl
      obtain ⟨gb, rfl, y0, y1⟩ := rsAt_row (HB.out.below HB3.out) k hkl
      generalize rl[k] = o at *
      obtain ⟨ov, oh⟩ := o
      simp only at x0 x1 y0 y1
      have e1 : (ov.toList != ov.toList) = false := by simp
      have e2 : (oh != oh) = false := by simp
      go_wp2_with fail
      go_quiet (fail)
      have HB4 := Lib.hid (HB3.out.trans ((bel_drewN _ nq).mono HB3.out.size))
      go_wp2_with fail
      go_roundw
      case rel => exact ⟨k + 1, by omega, by go_num, HB4⟩
      case measure => simp [intOf]; omega
    · obtain rfl : k = n := by omega
      go_wp2_with fail
      go_ret
      exact ⟨rfl, HB3.out⟩
end
/-! ### The answers that it is told -/
structure Ans where
  odd : Bool
  r : Rep
def AnsAt (W : World) (a : Option Addr) (n : Nat) (l : List Ans) : Prop := n = l.length ∧ ∀ j (h : j < l.length), ∃ b off, a = some ⟨b, off, none⟩ ∧ (W.cell? ⟨b, off + j * 5, none⟩ = some (.bool l[j].odd) ∧ W.cell? ⟨b, off + j * 5 + 1, none⟩ = some (.int .i64 l[j].r.code) ∧ W.cell? ⟨b, off + j * 5 + 2, none⟩ = some (.int .i64 l[j].r.state) ∧ W.cell? ⟨b, off + j * 5 + 3, none⟩ = some (.string l[j].r.v) ∧ W.cell? ⟨b, off + j * 5 + 4, none⟩ = some (.bool l[j].r.h))
theorem AnsAt.below {w w' : World} {a : Option Addr} {n : Nat} {l : List Ans} (h : AnsAt w a n l) (b : Below w.heap.size w w') : AnsAt w' a n l :=
  have hk := fun {p : Addr} {v : Value} (hp : w.cell? p = some v) => (b.cell (World.block_lt_of_cell? w p hp)).trans hp
  ⟨h.1, fun j hj => let ⟨g, off, e, h0, h1, h2, h3, h4⟩ := h.2 j hj; ⟨g, off, e, hk h0, hk h1, hk h2, hk h3, hk h4⟩⟩
section
variable {H : Type} {enc : TypeId × Value → H} {W : World} {base : Nat} {spare : Nat → Bool} {held : Bool}
set_option maxRecDepth 100000 in
theorem open_ans {t e : TypeId} {a : Option Addr} {n c : Nat} {d : DataW H} {p : List MemPlace} {g0 g1 f0 f1 f2 f3 : Field} (ht : Tryd.prog.underlying t = some (.slice e)) (he : Tryd.prog.underlying e = some (.struct #[g0, g1])) (hK : Tryd.prog.cellsOf e = 5)
    (q0 : g0.offset = 0) (q1 : g1.offset = 1) (d0 : Tryd.prog.cellsOf g0.type = 1) (d1 : Tryd.prog.cellsOf g1.type = 4) (s0 : Tryd.prog.underlying g0.type = some (.bool)) (s1 : Tryd.prog.underlying g1.type = some (.struct #[f0, f1, f2, f3]))
    (o0 : f0.offset = 0) (o1 : f1.offset = 1) (o2 : f2.offset = 2) (o3 : f3.offset = 3)
    (c0 : Tryd.prog.cellsOf f0.type = 1) (c1 : Tryd.prog.cellsOf f1.type = 1) (c2 : Tryd.prog.cellsOf f2.type = 1) (c3 : Tryd.prog.cellsOf f3.type = 1)
    (u0 : Tryd.prog.underlying f0.type = some (.int .i64)) (u1 : Tryd.prog.underlying f1.type = some (.int .i64)) (u2 : Tryd.prog.underlying f2.type = some (.string)) (u3 : Tryd.prog.underlying f3.type = some (.bool))
    (h : DataW.Trod enc Tryd.prog W base spare held t (.slice a n c) d p) : n ≤ maxLen ∧ ∃ l, AnsAt W a n l := by
  obtain ⟨hn, hj⟩ := open_elems ht hK (by decide) h
  haveI : Inhabited Ans := ⟨⟨false, ⟨0, 0, ByteArray.empty, false⟩⟩⟩
  obtain ⟨l, hl, hp⟩ := list_of n (fun j (x : Ans) => ∃ b off, a = some ⟨b, off, none⟩ ∧ (W.cell? ⟨b, off + j * 5, none⟩ = some (.bool x.odd) ∧ W.cell? ⟨b, off + j * 5 + 1, none⟩ = some (.int .i64 x.r.code) ∧ W.cell? ⟨b, off + j * 5 + 2, none⟩ = some (.int .i64 x.r.state) ∧ W.cell? ⟨b, off + j * 5 + 3, none⟩ = some (.string x.r.v) ∧ W.cell? ⟨b, off + j * 5 + 4, none⟩ = some (.bool x.r.h))) fun j hjn => by
    obtain ⟨b, off, ha, cs, m, y, hlen, hc, hy⟩ := hj j hjn
    obtain ⟨xs, k, _, _, _, hxl, hf⟩ := DataW.trod_struct he hy
    match cs, hlen with
    | [v0, v1, v2, v3, v4], _ =>
      match xs, hxl with
      | [y0, y1], _ =>
        have k0 := hf 0 g0 rfl
        have k1 := hf 1 g1 rfl
        simp [q0, q1, d0, d1] at k0 k1
        obtain ⟨x0, e0, _⟩ := DataW.trod_bool s0 k0
        obtain ⟨zs, k', _, _, _, hzl, hg⟩ := DataW.trod_struct s1 k1
        match zs, hzl with
        | [z0, z1, z2, z3], _ =>
          have j0 := hg 0 f0 rfl
          have j1 := hg 1 f1 rfl
          have j2 := hg 2 f2 rfl
          have j3 := hg 3 f3 rfl
          simp [o0, o1, o2, o3, c0, c1, c2, c3] at j0 j1 j2 j3
          obtain ⟨x1, e1, _, _⟩ := DataW.trod_int u0 j0
          obtain ⟨x2, e2, _, _⟩ := DataW.trod_int u1 j1
          obtain ⟨x3, e3, _, _⟩ := DataW.trod_string u2 j2
          obtain ⟨x4, e4, _⟩ := DataW.trod_bool u3 j3
          simp only [List.cons.injEq, and_true] at e0 e1 e2 e3 e4
          subst e0 e1 e2 e3 e4
          exact ⟨⟨x0, ⟨x1, x2, x3, x4⟩⟩, b, off, ha, by simpa using hc 0 _ rfl, hc 1 _ rfl, hc 2 _ rfl, hc 3 _ rfl, hc 4 _ rfl⟩
  exact ⟨hn, l, hl.symm, hp⟩
end
end Go.Proofs.YtmifgnibalbgjaaDoor
