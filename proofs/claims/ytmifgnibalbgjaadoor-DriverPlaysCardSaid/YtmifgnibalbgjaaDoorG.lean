/- The route's map and the driver in memory; the driver as a plain thing. -/
import Derived.Test.YtmifgnibalbgjaaDoorE
import Derived.Test.YtmifgnibalbgjaaDoorF
import Derived.Test.YtmifgnibalbgjaaDoorRC
namespace Go.Proofs.YtmifgnibalbgjaaDoor
open Go.RowKit
def intsV (l : List Int) : List Value := l.map fun i => .int .i64 i
/-- The map of shards. -/
def MapA (mg : Nat) (ss : List ByteArray) : Asn := fun w D => ∃ a n c, D = mg :: (if n = 0 then [] else blkOf a) ∧ w.cell? ⟨mg, 0, none⟩ = some (.slice a n c) ∧ StrsAt w a n ss ∧ ss.length ≤ 7
instance {mg : Nat} {ss : List ByteArray} : Stable (MapA mg ss) where
  lt := fun {w D} h x hx => by
    obtain ⟨a, n, c, rfl, h1, h2, _⟩ := h
    rcases List.mem_cons.1 hx with rfl | hx
    · exact World.block_lt_of_cell? w _ h1
    · split at hx
      · cases hx
      · rename_i hn
        obtain ⟨b, off, rfl, hc⟩ := h2.2 0 (by omega)
        simp [blkOf] at hx
        subst hx
        exact World.block_lt_of_cell? w _ hc
  keep := fun {w w' D} h hk => by
    obtain ⟨a, n, c, rfl, h1, h2, h3⟩ := h
    refine ⟨a, n, c, rfl, (World.cell?_of_block (w := w) (hk mg (by simp))).trans h1, ⟨h2.1, fun j hj => ?_⟩, h3⟩
    obtain ⟨b, off, rfl, hc⟩ := h2.2 j hj
    exact ⟨b, off, rfl, (World.cell?_of_block (w := w) (hk b (by rw [if_neg (by omega)]; simp [blkOf]))).trans hc⟩
theorem MapA.at {mg : Nat} {ss : List ByteArray} {w : World} {D : List Nat} (h : MapA mg ss w D) : MapAt w mg ss := by
  obtain ⟨a, n, c, _, h1, h2, h3⟩ := h
  exact ⟨a, n, c, h1, h2, h3⟩
/-- What a driver is. -/
structure Dr where
  tx : Int
  stamp : Int
  tries : Int
  attempt : Int
  phase : Int
  nth : Nat
  last : Rs
  write : Rs
  res : List Rs
  tl : List Int
  outcome : Int
  quits : Bool
/-- its cells. -/
abbrev drC (d : Dr) (mg : Nat) (pa : Option Addr) (pn pc : Nat) (ra : Option Addr) (rn rc : Nat) (tv lv : Value) : Array Value :=
  #[.int .i64 d.tx, .int .i64 d.stamp, .int .i64 d.tries, .pointer (some ⟨mg, 0, none⟩), .slice pa pn pc, .int .i64 d.attempt, .int .i64 d.phase, .int .i64 d.nth, .string d.last.v, .bool d.last.h, .string d.write.v, .bool d.write.h, .slice ra rn rc, tv, lv, .int .i64 d.outcome, .bool d.quits]
/-- The shards that were touched, or that are left. -/
def TlA (ph : Int) (tv lv : Value) (tl : List Int) : Asn := fun w D =>
  (ph < 7 ∧ ∃ ta tc, tv = .slice ta tl.length tc ∧ lv = .slice none 0 0 ∧ RowA 3 1 ta tl.length tc (intsV tl) w D) ∨
  (ph = 7 ∧ (∃ t0 t1 t2, tv = .slice t0 t1 t2) ∧ ∃ la lc, lv = .slice la tl.length lc ∧ QRowA 3 la tl.length lc (intsV tl) w D) ∨
  (7 < ph ∧ D = [] ∧ (∃ t0 t1 t2, tv = .slice t0 t1 t2) ∧ ∃ l0 l1 l2, lv = .slice l0 l1 l2)
instance {ph : Int} {tv lv : Value} {tl : List Int} : Stable (TlA ph tv lv tl) where
  lt := fun {w D} h => by
    rcases h with ⟨_, ta, tc, _, _, h⟩ | ⟨_, _, la, lc, _, h⟩ | ⟨_, rfl, _⟩
    · exact Stable.lt h
    · exact Stable.lt h
    · intro x hx; cases hx
  keep := fun {w w' D} h hk => by
    rcases h with ⟨e, ta, tc, e1, e2, h⟩ | ⟨e, e1, la, lc, e2, h⟩ | ⟨e, rfl, h⟩
    · exact .inl ⟨e, ta, tc, e1, e2, Stable.keep h hk⟩
    · exact .inr (.inl ⟨e, e1, la, lc, e2, Stable.keep h hk⟩)
    · exact .inr (.inr ⟨e, rfl, h⟩)
abbrev drL (g mg : Nat) (l : List Opp) (d : Dr) (pa : Option Addr) (pc : Nat) (ra : Option Addr) (rc : Nat) (tv lv : Value) : List Asn :=
  [BlockA g (drC d mg pa l.length pc ra d.res.length rc tv lv) 69, RowA 60 4 pa l.length pc (opFlat l), RowA 52 2 ra d.res.length rc (rsFlat d.res)]
/-- The driver at block g. -/
def DrA (g mg : Nat) (l : List Opp) (d : Dr) : Asn := fun w D => ∃ pa pc ra rc tv lv, All (drL g mg l d pa pc ra rc tv lv ++ [TlA d.phase tv lv d.tl]) w D
instance {g mg : Nat} {l : List Opp} {d : Dr} : Stable (DrA g mg l d) where
  lt := fun ⟨_, _, _, _, _, _, h⟩ => (allStable).lt h
  keep := fun ⟨pa, pc, ra, rc, tv, lv, h⟩ hk => ⟨pa, pc, ra, rc, tv, lv, (allStable).keep h hk⟩
theorem drC_cell {w : World} {g : Nat} {C : Array Value} (h : w.heap[g]? = some (.cells C 69 (0, 0))) : ∀ i v, C[i]? = some v → w.cell? ⟨g, i, none⟩ = some v ∧ w.frozen? ⟨g, i, none⟩ = false := fun _ _ hv => cell_of_heap h hv
end Go.Proofs.YtmifgnibalbgjaaDoor
