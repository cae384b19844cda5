/- Tables of maps, as far as the law's fixed calls reach them; the fixed calls answer as the document fixes. -/
import Derived.Test.YteocoijkfkoddaaC
import Derived.Laws.Externs
import Derived.Laws.LoneSync
import Derived.LaidEql
namespace Go.Proofs.Yteocoijkfkoddaa
open Go.RowKit

theorem run_loadP {a : Addr} {v : Option Addr} (w : World) (hc : w.cell? a = some (.pointer v)) :
    (callFunc 43 #[.pointer (some a)]).run Try.prog w = .ok (.value (.pointer v)) w := by
  rw [run_callFunc_extern Try.func43 (by kernel_rfl) (by kernel_rfl) (by kernel_rfl) (e := Extern.Atomic.loadT .ptr) (by kernel_rfl)]
  change (Sem.run Try.prog (do Extern.Atomic.read .ptr (← asAddr (.pointer (some a)))) w).andThen _ = _
  simp [Extern.Atomic.read, asAddr, hc, Result.andThen]
theorem run_storeP {a : Addr} {v : Option Addr} {u : Value} (w : World) (hc : w.cell? a = some u) (hz : w.frozen? a = false) :
    (callFunc 42 #[.pointer (some a), .pointer v]).run Try.prog w = .ok (.value (.tuple #[])) (w.setCell a (.pointer v)) := by
  rw [run_callFunc_extern Try.func42 (by kernel_rfl) (by kernel_rfl) (by kernel_rfl) (e := Extern.Atomic.storeT) (by kernel_rfl)]
  change (Sem.run Try.prog (do
    store (← asAddr (.pointer (some a))) (.pointer v) .atomic
    pure Extern.Atomic.none_) w).andThen _ = _
  simp [asAddr, hc, hz, run_store Try.prog w a (.pointer v) .atomic rfl, Result.andThen, Extern.Atomic.none_]
theorem run_casP {a p : Addr} {v : Option Addr} (w : World) (hc : w.cell? a = some (.pointer (some p))) (hz : w.frozen? a = false) :
    (callFunc 44 #[.pointer (some a), .pointer (some p), .pointer v]).run Try.prog w = .ok (.value (.bool true)) (w.setCell a (.pointer v)) := by
  rw [run_callFunc_extern Try.func44 (by kernel_rfl) (by kernel_rfl) (by kernel_rfl) (e := Extern.Atomic.casT .ptr) (by kernel_rfl)]
  change (Sem.run Try.prog (do
    let a' ← asAddr (.pointer (some a))
    if ← Extern.Atomic.touchesFrozen a' then unsupported (.unsafePointer "a write to bytes that a string shares")
    let eq ← match Extern.Atomic.T.ptr, ← Extern.Atomic.read .ptr a', Value.pointer (some p) with
      | _, .int _ x, .int _ y => pure (x == y)
      | .ptr, .pointer x, .pointer y => samePointer x y
      | .int _, .pointer (some _), .int _ 0 | .int _, .int _ 0, .pointer (some _) => pure false
      | .int _, .pointer (some _), _ | .int _, _, .pointer (some _) => unsupported .addressObserved
      | _, _, _ => stuck "atomic.CompareAndSwap: old is no T"
    if eq then store a' (.pointer v) .atomic
    pure (Value.bool eq)) w).andThen _ = _
  simp [Extern.Atomic.touchesFrozen, Extern.Atomic.read, asAddr, viewAt, World.shape?_isSome_of_cell? hc, hc, hz, samePointer, run_sameAddr_same, run_store Try.prog w a (.pointer v) .atomic rfl, Result.andThen]

theorem run_toU {a : Addr} {u : Value} (w : World) (hc : w.cell? a = some u) : (convert 58 62 (.pointer (some a))).run Try.prog w = .ok (.pointer (some a)) w :=
  run_convert_to_unsafe (t := 69) (by kernel_rfl) (by kernel_rfl) (by kernel_rfl) hc
theorem run_ofU (v : Nat) (w : World) (hsh : w.shape? v = some (69, 2)) :
    (convert 62 58 (.pointer (some ⟨v, 0, none⟩))).run Try.prog w = .ok (.pointer (some ⟨v, 0, none⟩)) w := by
  have u1 : Try.prog.underlying 62 = some .unsafePointer := by kernel_rfl
  have u2 : Try.prog.underlying 58 = some (.pointer 69) := by kernel_rfl
  have hl : liesAt Try.prog Try.prog.depth 69 (2 / Try.prog.cellsOf 69) 0 69 1 = true := by kernel_rfl
  have hi0 : (Try.prog.info? 69).map (fun i => decide (i.size = 0)) = some false := by kernel_rfl
  obtain ⟨i, hi, hz0⟩ := Option.map_eq_some_iff.1 hi0
  have hz : i.size ≠ 0 := by simpa using hz0
  simp [convert, Conv.unsafePointer, Conv.seenAt, viewAt, sizeOf, typeInfo, variablesAt, shape, run_underlying u1, run_underlying u2, hi, hz, hsh, hl, Result.andThen, Sem.run]

/-- A version lies at block v: a map, and its number. -/
def VersionAt (w : World) (v : Nat) (m : Option Addr) (n : Int) : Prop := w.heap[v]? = some (.cells #[.pointer m, .int .i64 n] 69 (0, 0))
theorem VersionAt.keep {w w' : World} {v : Nat} {m : Option Addr} {n : Int} (h : VersionAt w v m n) (k : Keep w w') : VersionAt w' v m n :=
  (Below.block k v (Array.getElem?_eq_some_iff.1 h).1).trans h
theorem VersionAt.c0 {w : World} {v : Nat} {m : Option Addr} {n : Int} (h : VersionAt w v m n) : w.cell? ⟨v, 0, none⟩ = some (.pointer m) := by
  unfold World.cell?; rw [show (⟨v, 0, none⟩ : Addr).block = v from rfl, h]; rfl
theorem VersionAt.c1 {w : World} {v : Nat} {m : Option Addr} {n : Int} (h : VersionAt w v m n) : w.cell? ⟨v, 1, none⟩ = some (.int .i64 n) := by
  unfold World.cell?; rw [show (⟨v, 1, none⟩ : Addr).block = v from rfl, h]; rfl
theorem VersionAt.sh {w : World} {v : Nat} {m : Option Addr} {n : Int} (h : VersionAt w v m n) : w.shape? v = some (69, 2) := by
  unfold World.shape?; rw [h]; rfl
/-- A table lies at block t. -/
def TableAt (w : World) (t v : Nat) : Prop := w.heap[t]? = some (.cells #[.pointer (some ⟨v, 0, none⟩)] 66 (0, 0))
/-- An empty one. -/
def BareAt (w : World) (t : Nat) : Prop := w.heap[t]? = some (.cells #[.pointer none] 66 (0, 0))
theorem TableAt.c0 {w : World} {t v : Nat} (h : TableAt w t v) : w.cell? ⟨t, 0, none⟩ = some (.pointer (some ⟨v, 0, none⟩)) := by
  unfold World.cell?; rw [show (⟨t, 0, none⟩ : Addr).block = t from rfl, h]; rfl
theorem TableAt.fz {w : World} {t v : Nat} (h : TableAt w t v) : w.frozen? ⟨t, 0, none⟩ = false := by
  unfold World.frozen?; rw [show (⟨t, 0, none⟩ : Addr).block = t from rfl, h]; rfl

/-- All but one block is as it was. -/
def KeepBut (t : Nat) (w w' : World) : Prop := w'.os = w.os ∧ w'.tape = w.tape ∧ w'.output = w.output ∧ w.heap.size ≤ w'.heap.size ∧ ∀ k, k < w.heap.size → k ≠ t → w'.heap[k]? = w.heap[k]?
theorem KeepBut.keep {t : Nat} {w0 w w' : World} (h : KeepBut t w w') (k : Keep w0 w) (ht : w0.heap.size ≤ t) : Keep w0 w' :=
  ⟨h.1.trans k.os, h.2.1.trans k.tape, h.2.2.1.trans k.output, Nat.le_trans k.size h.2.2.2.1, fun i hi => (h.2.2.2.2 i (Nat.lt_of_lt_of_le hi k.size) (by omega)).trans (k.block i hi)⟩
theorem KeepBut.version {t v : Nat} {w w' : World} {m : Option Addr} {n : Int} (h : KeepBut t w w') (hv : VersionAt w v m n) (ht : v ≠ t) : VersionAt w' v m n :=
  (h.2.2.2.2 v (Array.getElem?_eq_some_iff.1 hv).1 ht).trans hv
theorem setCell_bare {t v : Nat} {w : World} (h : BareAt w t) : TableAt (w.setCell ⟨t, 0, none⟩ (.pointer (some ⟨v, 0, none⟩))) t v ∧ KeepBut t w (w.setCell ⟨t, 0, none⟩ (.pointer (some ⟨v, 0, none⟩))) := by
  refine ⟨?_, rfl, rfl, rfl, by simp [World.setCell], fun k _ hk => Below.heap_setCell _ _ _ _ hk⟩
  unfold BareAt at h
  unfold TableAt
  simp only [World.setCell, Array.getElem?_modify, h]
  rfl
theorem setCell_table {t v v0 : Nat} {w : World} (h : TableAt w t v0) : TableAt (w.setCell ⟨t, 0, none⟩ (.pointer (some ⟨v, 0, none⟩))) t v ∧ KeepBut t w (w.setCell ⟨t, 0, none⟩ (.pointer (some ⟨v, 0, none⟩))) := by
  refine ⟨?_, rfl, rfl, rfl, by simp [World.setCell], fun k _ hk => Below.heap_setCell _ _ _ _ hk⟩
  unfold TableAt at h ⊢
  simp only [World.setCell, Array.getElem?_modify, h]
  rfl

set_option maxRecDepth 100000 in
theorem load_any (t v : Nat) (w : World) (h : w.cell? ⟨t, 0, none⟩ = some (.pointer (some ⟨v, 0, none⟩))) (hs : w.shape? v = some (69, 2)) :
    Calls Try.prog 34 #[.pointer (some ⟨t, 0, none⟩)] w fun e w' => e = .returned (.pointer (some ⟨v, 0, none⟩)) ∧ w = w' := by
  have H := run_loadP w h
  have H2 := run_ofU v w hs
  clear h hs
  go_enter Try.func34, Try.ntmps34
  go_wp2
  go_ret
  exact ⟨rfl, rfl⟩
set_option maxRecDepth 100000 in
theorem store_any (t v : Nat) (u u' : Value) (w : World) (h : w.cell? ⟨t, 0, none⟩ = some u) (hz : w.frozen? ⟨t, 0, none⟩ = false) (hv : w.cell? ⟨v, 0, none⟩ = some u') :
    Calls Try.prog 33 #[.pointer (some ⟨t, 0, none⟩), .pointer (some ⟨v, 0, none⟩)] w fun e w' => e = .returned (.tuple #[]) ∧ w' = w.setCell ⟨t, 0, none⟩ (.pointer (some ⟨v, 0, none⟩)) := by
  have H := run_storeP (v := some ⟨v, 0, none⟩) w h hz
  have H2 := run_toU w hv
  clear h hz hv
  go_enter Try.func33, Try.ntmps33
  go_wp2
  go_end0
  exact ⟨rfl, rfl⟩
set_option maxRecDepth 100000 in
theorem cas_any (t v v' : Nat) (u u' : Value) (w : World) (h : w.cell? ⟨t, 0, none⟩ = some (.pointer (some ⟨v, 0, none⟩))) (hz : w.frozen? ⟨t, 0, none⟩ = false) (hv : w.cell? ⟨v, 0, none⟩ = some u) (hv' : w.cell? ⟨v', 0, none⟩ = some u') :
    Calls Try.prog 35 #[.pointer (some ⟨t, 0, none⟩), .pointer (some ⟨v, 0, none⟩), .pointer (some ⟨v', 0, none⟩)] w fun e w' => e = .returned (.bool true) ∧ w' = w.setCell ⟨t, 0, none⟩ (.pointer (some ⟨v', 0, none⟩)) := by
  have H := run_casP (v := some ⟨v', 0, none⟩) w h hz
  have H2 := run_toU w hv
  have H3 := run_toU w hv'
  clear h hz hv hv'
  go_enter Try.func35, Try.ntmps35
  go_wp2
  go_ret
  exact ⟨rfl, rfl⟩

set_option maxRecDepth 100000 in
set_option maxHeartbeats 400000 in
theorem newTable_any (g : Nat) (w : World) :
    Calls Try.prog 20 #[.pointer (some ⟨g, 0, none⟩)] w fun e w' => ∃ t v, e = .returned (.pointer (some ⟨t, 0, none⟩)) ∧ TableAt w' t v ∧ VersionAt w' v (some ⟨g, 0, none⟩) 1 ∧ w.heap.size ≤ t ∧ w.heap.size ≤ v ∧ Keep w w' := by
  have hb0 : BareAt (w.alloc (.cells #[.pointer none] 66)) w.heap.size := heap_alloc_new _ _
  have hb : BareAt ((w.alloc (.cells #[.pointer none] 66)).alloc (.cells #[.pointer (some ⟨g, 0, none⟩), .int .i64 1] 69)) w.heap.size :=
    ((Keep.alloc _ _).block _ (by simp)).trans hb0
  have hv : VersionAt ((w.alloc (.cells #[.pointer none] 66)).alloc (.cells #[.pointer (some ⟨g, 0, none⟩), .int .i64 1] 69)) (w.heap.size + 1) (some ⟨g, 0, none⟩) 1 := by
    have := heap_alloc_new (w.alloc (.cells #[.pointer none] 66)) (.cells #[.pointer (some ⟨g, 0, none⟩), .int .i64 1] 69)
    simpa [VersionAt] using this
  have HK := Lib.hid ((Keep.alloc w (.cells #[.pointer none] 66)).trans (Keep.alloc _ (.cells #[.pointer (some ⟨g, 0, none⟩), .int .i64 1] 69)))
  have HC := Lib.hid ((store_any w.heap.size (w.heap.size + 1) (.pointer none) (.pointer (some ⟨g, 0, none⟩)) _ (by unfold World.cell?; rw [show (⟨w.heap.size, 0, none⟩ : Addr).block = w.heap.size from rfl, hb]; rfl)
    (by unfold World.frozen?; rw [show (⟨w.heap.size, 0, none⟩ : Addr).block = w.heap.size from rfl, hb]; rfl) hv.c0).mono
    (R' := fun e w' => e = .returned (.tuple #[]) ∧ TableAt w' w.heap.size (w.heap.size + 1) ∧ VersionAt w' (w.heap.size + 1) (some ⟨g, 0, none⟩) 1 ∧ Keep w w')
    fun e w' ⟨he, hw⟩ => by
      subst hw
      have := setCell_bare (v := w.heap.size + 1) hb
      exact ⟨he, this.1, this.2.version hv (by omega), this.2.keep HK.out (Nat.le_refl _)⟩)
  clear hb0 hb hv HK
  go_enter Try.func20, Try.ntmps20
  go_wp2_with (go_at_call 33; refine HC.out.mono ?_; rintro e w' ⟨rfl, h1, h2, h3⟩)
  go_ret
  exact ⟨_, _, rfl, h1, h2, Nat.le_refl _, Nat.le_succ _, h3⟩
set_option maxRecDepth 100000 in
set_option maxHeartbeats 400000 in
theorem now_any (t v : Nat) (m : Option Addr) (n : Int) (w : World) (ht : TableAt w t v) (hv : VersionAt w v m n) :
    Calls Try.prog 21 #[.pointer (some ⟨t, 0, none⟩)] w fun e w' => e = .returned (.tuple #[.pointer m, .int .i64 n]) ∧ ∃ q, w' = w.drewN q := by
  have HC := Lib.hid (load_any t v w ht.c0 hv.sh)
  have h0 := hv.c0
  have h1 := hv.c1
  clear ht hv
  go_enter Try.func21, Try.ntmps21
  go_wp2_with (go_at_call 34; refine HC.out.mono ?_; rintro e w' ⟨rfl, rfl⟩)
  go_quiet (fail)
  go_wp2
  go_ret2
  exact ⟨rfl, _, rfl⟩
set_option maxRecDepth 100000 in
set_option maxHeartbeats 400000 in
theorem change_no (t v g : Nat) (m : Option Addr) (n k : Int) (w : World) (ht : TableAt w t v) (hv : VersionAt w v m n) (hk : n ≠ k) :
    Calls Try.prog 22 #[.pointer (some ⟨t, 0, none⟩), .pointer (some ⟨g, 0, none⟩), .int .i64 k] w fun e w' => e = .returned (.int .i64 8) ∧ w = w' := by
  have HC := Lib.hid (load_any t v w ht.c0 hv.sh)
  have h0 := hv.c0
  have h1 := hv.c1
  have hb : (n == k) = false := beq_eq_false_iff_ne.2 hk
  have hb' : (n != k) = true := bne_iff_ne.2 hk
  clear ht hv hk
  go_enter Try.func22, Try.ntmps22
  go_wp2_with (go_at_call 34; refine HC.out.mono ?_; rintro e w' ⟨rfl, rfl⟩)
  go_ret
  exact ⟨rfl, rfl⟩
set_option maxRecDepth 100000 in
set_option maxHeartbeats 400000 in
theorem change_ok (t v g : Nat) (m : Option Addr) (w : World) (ht : TableAt w t v) (hv : VersionAt w v m 1) :
    Calls Try.prog 22 #[.pointer (some ⟨t, 0, none⟩), .pointer (some ⟨g, 0, none⟩), .int .i64 1] w fun e w' => e = .returned (.int .i64 0) ∧ ∃ v', TableAt w' t v' ∧ VersionAt w' v' (some ⟨g, 0, none⟩) 2 ∧ KeepBut t w w' := by
  have HC := Lib.hid (load_any t v w ht.c0 hv.sh)
  have h0 := hv.c0
  have h1 := hv.c1
  have k1 := Keep.alloc w (.cells #[.pointer (some ⟨g, 0, none⟩), .int .i64 2] 69)
  have hv2 : VersionAt (w.alloc (.cells #[.pointer (some ⟨g, 0, none⟩), .int .i64 2] 69)) w.heap.size (some ⟨g, 0, none⟩) 2 := heap_alloc_new _ _
  have hT : TableAt (w.alloc (.cells #[.pointer (some ⟨g, 0, none⟩), .int .i64 2] 69)) t v := (k1.block t (Array.getElem?_eq_some_iff.1 ht).1).trans ht
  have htl : t < w.heap.size := (Array.getElem?_eq_some_iff.1 ht).1
  have HC2 := Lib.hid ((cas_any t v w.heap.size _ _ _ hT.c0 hT.fz (hv.keep k1).c0 hv2.c0).mono (R' := fun e w' => e = .returned (.bool true) ∧ TableAt w' t w.heap.size ∧ VersionAt w' w.heap.size (some ⟨g, 0, none⟩) 2 ∧ KeepBut t w w')
    fun e w' ⟨he, hw⟩ => by
      subst hw
      have := setCell_table (v := w.heap.size) hT
      exact ⟨he, this.1, this.2.version hv2 (by omega), this.2.1, this.2.2.1, this.2.2.2.1, Nat.le_trans k1.size this.2.2.2.2.1, fun k hk hkt => (this.2.2.2.2.2 k (Nat.lt_of_lt_of_le hk k1.size) hkt).trans (k1.block k hk)⟩)
  clear ht hv k1 hv2 hT
  go_enter Try.func22, Try.ntmps22
  go_wp2_with (first | (go_at_call 34; refine HC.out.mono ?_; rintro e w' ⟨rfl, rfl⟩) | (go_at_call 35; refine HC2.out.mono ?_; rintro e w1 ⟨rfl, ha, hb, hc⟩))
  go_ret
  exact ⟨rfl, _, ha, hb, hc⟩
end Go.Proofs.Yteocoijkfkoddaa
