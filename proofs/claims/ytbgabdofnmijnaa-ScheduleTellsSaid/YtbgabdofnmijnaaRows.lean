/-
  No cell of these rows narrows 'for every input' (looked for: loops, veiled, ifaces, maps, wideKeys, modest, calm, conditions, laid).
  DERIVED. THE GIVEN ROWS OF THIS SEAT. 4 by the template 'for every input the law returns true; each argument reads behind the call as it read before'; 0 by the template 'total and deterministic' (their statements: YtbgabdofnmijnaaTotals.lean).
  GIVEN WITH THE SEED: the statements are not yours to turn. If you find one false, say at which input.
  Laid BY PROGRAM, IN A SANDBOX (cutbox-rows.mjs): the forced cells as the released guide's own fill.sh prints them over the translation 857d4a3416114b8b… (all of the seat's roots in one cut). By AI agents, Wed Nov 11 2026. No macro, syntax, notation, axiom, sorry.
-/
import Derived.Test.YtbgabdofnmijnaaChecked
import GoSem.Claim
import GoSem.ClaimJoined
import GoSem.ClaimMapViews
import Derived.JoinedTies
import Derived.KernelRfl
namespace Go.Proofs.Ytbgabdofnmijnaa
/- THE CELL 'sum', in the pinned program and in every row, IS THE sha256 OF THE DUMP (.gsa) THAT YtbgabdofnmijnaaProg.lean LOADS. Nothing in Lean hashes anything: it is a label: what it is worth is what the hold of that sum in a sandbox is worth. -/
noncomputable def Try.pinned : Pinned := { name := "ytbgabdofnmijnaa", sum := "857d4a3416114b8b932ec895955205bf8937d14c2b9e072ad24d22f1a4394928", checked := Try.checked }
namespace Rows
def none {H : Type} : Left H := { results := [], args := [] }

/-- 'kissinggatelaw26.ScheduleTells': WHATEVER THE INPUT: true; the input reads as it did. -/
def scheduleTellsSpec : ChangeSpec := { name := "scheduleTells", fn := fun _ => fun
  | [d] => { results := [.lit (.bool true)], args := [d] }
  | _ => none }
def scheduleTellsRow : OpenClaim := { program := "ytbgabdofnmijnaa", sum := "857d4a3416114b8b932ec895955205bf8937d14c2b9e072ad24d22f1a4394928", func := "kissinggate/kissinggatelaw26.ScheduleTells", spec := "scheduleTells", unfollowed := true, recurses := true, apart := false }
def ScheduleTellsSaid : Prop := scheduleTellsRow.holds Try.pinned (OpenSpec.ofChange scheduleTellsSpec)

/-- ITS FALSE NEIGHBOUR: 'it returns false'. Refute it at one input. -/
def scheduleTellsWrong : ChangeSpec := { name := "scheduleTells", fn := fun _ => fun
  | [d] => { results := [.lit (.bool false)], args := [d] }
  | _ => none }
def ScheduleTellsWrongFalsely : Prop := scheduleTellsRow.holds Try.pinned (OpenSpec.ofChange scheduleTellsWrong)

/-- 'kissinggatelaw26.ScheduleClasses': WHATEVER THE INPUT: true; the input reads as it did. -/
def scheduleClassesSpec : ChangeSpec := { name := "scheduleClasses", fn := fun _ => fun
  | [d] => { results := [.lit (.bool true)], args := [d] }
  | _ => none }
def scheduleClassesRow : OpenClaim := { program := "ytbgabdofnmijnaa", sum := "857d4a3416114b8b932ec895955205bf8937d14c2b9e072ad24d22f1a4394928", func := "kissinggate/kissinggatelaw26.ScheduleClasses", spec := "scheduleClasses", unfollowed := true, recurses := true, apart := false }
def ScheduleClassesSaid : Prop := scheduleClassesRow.holds Try.pinned (OpenSpec.ofChange scheduleClassesSpec)

/-- ITS FALSE NEIGHBOUR: 'it returns false'. Refute it at one input. -/
def scheduleClassesWrong : ChangeSpec := { name := "scheduleClasses", fn := fun _ => fun
  | [d] => { results := [.lit (.bool false)], args := [d] }
  | _ => none }
def ScheduleClassesWrongFalsely : Prop := scheduleClassesRow.holds Try.pinned (OpenSpec.ofChange scheduleClassesWrong)

/-- 'kissinggatelaw26.ScheduleSerial': WHATEVER THE INPUT: true; the input reads as it did. -/
def scheduleSerialSpec : ChangeSpec := { name := "scheduleSerial", fn := fun _ => fun
  | [d] => { results := [.lit (.bool true)], args := [d] }
  | _ => none }
def scheduleSerialRow : OpenClaim := { program := "ytbgabdofnmijnaa", sum := "857d4a3416114b8b932ec895955205bf8937d14c2b9e072ad24d22f1a4394928", func := "kissinggate/kissinggatelaw26.ScheduleSerial", spec := "scheduleSerial", unfollowed := true, recurses := true, apart := false }
def ScheduleSerialSaid : Prop := scheduleSerialRow.holds Try.pinned (OpenSpec.ofChange scheduleSerialSpec)

/-- ITS FALSE NEIGHBOUR: 'it returns false'. Refute it at one input. -/
def scheduleSerialWrong : ChangeSpec := { name := "scheduleSerial", fn := fun _ => fun
  | [d] => { results := [.lit (.bool false)], args := [d] }
  | _ => none }
def ScheduleSerialWrongFalsely : Prop := scheduleSerialRow.holds Try.pinned (OpenSpec.ofChange scheduleSerialWrong)

/-- 'kissinggatelaw26.ScheduleSwap': WHATEVER THE INPUT: true; the input reads as it did. -/
def scheduleSwapSpec : ChangeSpec := { name := "scheduleSwap", fn := fun _ => fun
  | [d1, d2] => { results := [.lit (.bool true)], args := [d1, d2] }
  | _ => none }
def scheduleSwapRow : OpenClaim := { program := "ytbgabdofnmijnaa", sum := "857d4a3416114b8b932ec895955205bf8937d14c2b9e072ad24d22f1a4394928", func := "kissinggate/kissinggatelaw26.ScheduleSwap", spec := "scheduleSwap", unfollowed := true, recurses := true, apart := false }
def ScheduleSwapSaid : Prop := scheduleSwapRow.holds Try.pinned (OpenSpec.ofChange scheduleSwapSpec)

/-- ITS FALSE NEIGHBOUR: 'it returns false'. Refute it at one input. -/
def scheduleSwapWrong : ChangeSpec := { name := "scheduleSwap", fn := fun _ => fun
  | [d1, d2] => { results := [.lit (.bool false)], args := [d1, d2] }
  | _ => none }
def ScheduleSwapWrongFalsely : Prop := scheduleSwapRow.holds Try.pinned (OpenSpec.ofChange scheduleSwapWrong)

/- THE SECOND FORM. 'bulk': how many values and letters a reading holds, each counted each time it is reached (what is shared counts as often as it is met; a slice's spare places count too). A statement '..UptoSaid' is the law's where the arguments, and the package variables that the reading takes, are together of bulk at most 1048576: NARROWER than '..Said'. Prove '..Said' where nothing that the law and all that it calls make is longer than what came in: it says more and counts as full. Else prove '..UptoSaid'. A law counts once. -/
mutual
def uptoBulk {H : Type} : DataW H → Nat
  | .lit (.string bytes) => bytes.length + 1
  | .lit _ => 1
  | .nil => 1
  | .ptr d => uptoBulk d + 1
  | .slice elems spare => uptoBulkAll elems + uptoBulkAll spare + 1
  | .agg parts => uptoBulkAll parts + 1
  | .iface _ d => uptoBulk d + 1
  | .map entries => uptoBulkEntries entries + 1
  | .held _ => 1
def uptoBulkAll {H : Type} : List (DataW H) → Nat
  | [] => 0
  | d :: r => uptoBulk d + uptoBulkAll r
def uptoBulkEntries {H : Type} : List (Lit × DataW H) → Nat
  | [] => 0
  | x :: r => uptoBulkEntry x + uptoBulkEntries r
def uptoBulkEntry {H : Type} : Lit × DataW H → Nat
  | (.string bytes, d) => bytes.length + uptoBulk d + 1
  | (_, d) => uptoBulk d + 1
 end
def uptoSmall : (H : Type) → List (DataW H) → Bool := fun _ ds => decide (uptoBulkAll ds ≤ 1048576)
def OpenSpec.upto (s : _root_.Go.ChangeSpec) : _root_.Go.OpenSpec := { _root_.Go.OpenSpec.ofChange s with cond := some uptoSmall }

/-- 'kissinggatelaw26.ScheduleTells', WHERE WHAT IT READS IS OF BULK AT MOST 1048576: true; the input reads as it did. -/
def scheduleTellsUptoRow : OpenClaim := { program := "ytbgabdofnmijnaa", sum := "857d4a3416114b8b932ec895955205bf8937d14c2b9e072ad24d22f1a4394928", func := "kissinggate/kissinggatelaw26.ScheduleTells", spec := "scheduleTells", unfollowed := true, recurses := true, apart := false, narrowed := true }
def ScheduleTellsUptoSaid : Prop := scheduleTellsUptoRow.holds Try.pinned (OpenSpec.upto scheduleTellsSpec)

/-- 'kissinggatelaw26.ScheduleClasses', WHERE WHAT IT READS IS OF BULK AT MOST 1048576: true; the input reads as it did. -/
def scheduleClassesUptoRow : OpenClaim := { program := "ytbgabdofnmijnaa", sum := "857d4a3416114b8b932ec895955205bf8937d14c2b9e072ad24d22f1a4394928", func := "kissinggate/kissinggatelaw26.ScheduleClasses", spec := "scheduleClasses", unfollowed := true, recurses := true, apart := false, narrowed := true }
def ScheduleClassesUptoSaid : Prop := scheduleClassesUptoRow.holds Try.pinned (OpenSpec.upto scheduleClassesSpec)

/-- 'kissinggatelaw26.ScheduleSerial', WHERE WHAT IT READS IS OF BULK AT MOST 1048576: true; the input reads as it did. -/
def scheduleSerialUptoRow : OpenClaim := { program := "ytbgabdofnmijnaa", sum := "857d4a3416114b8b932ec895955205bf8937d14c2b9e072ad24d22f1a4394928", func := "kissinggate/kissinggatelaw26.ScheduleSerial", spec := "scheduleSerial", unfollowed := true, recurses := true, apart := false, narrowed := true }
def ScheduleSerialUptoSaid : Prop := scheduleSerialUptoRow.holds Try.pinned (OpenSpec.upto scheduleSerialSpec)

/-- 'kissinggatelaw26.ScheduleSwap', WHERE WHAT IT READS IS OF BULK AT MOST 1048576: true; the input reads as it did. -/
def scheduleSwapUptoRow : OpenClaim := { program := "ytbgabdofnmijnaa", sum := "857d4a3416114b8b932ec895955205bf8937d14c2b9e072ad24d22f1a4394928", func := "kissinggate/kissinggatelaw26.ScheduleSwap", spec := "scheduleSwap", unfollowed := true, recurses := true, apart := false, narrowed := true }
def ScheduleSwapUptoSaid : Prop := scheduleSwapUptoRow.holds Try.pinned (OpenSpec.upto scheduleSwapSpec)

end Rows
end Go.Proofs.Ytbgabdofnmijnaa
