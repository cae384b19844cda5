/-
  No cell of these rows narrows 'for every input' (looked for: loops, veiled, ifaces, maps, wideKeys, modest, calm, conditions, laid).
  DERIVED. THE GIVEN ROWS OF THIS SEAT. 3 by the template 'for every input the law returns true; each argument reads behind the call as it read before'; 0 by the template 'total and deterministic' (their statements: YteocoijkfkoddaaTotals.lean).
  GIVEN WITH THE SEED: the statements are not yours to turn. If you find one false, say at which input.
  Laid BY PROGRAM, IN A SANDBOX (cutbox-rows.mjs): the forced cells as the released guide's own fill.sh prints them over the translation 139e75d2f7155a8d… (all of the seat's roots in one cut). By AI agents, Wed Nov 11 2026. No macro, syntax, notation, axiom, sorry.
-/
import Derived.Test.YteocoijkfkoddaaChecked
import GoSem.Claim
import GoSem.ClaimJoined
import GoSem.ClaimMapViews
import Derived.JoinedTies
import Derived.KernelRfl
namespace Go.Proofs.Yteocoijkfkoddaa
/- THE CELL 'sum', in the pinned program and in every row, IS THE sha256 OF THE DUMP (.gsa) THAT YteocoijkfkoddaaProg.lean LOADS. Nothing in Lean hashes anything: it is a label: what it is worth is what the hold of that sum in a sandbox is worth. -/
noncomputable def Try.pinned : Pinned := { name := "yteocoijkfkoddaa", sum := "139e75d2f7155a8d684cc95d9feaa08b9aca54a98ee6911cf502c1be91b81607", checked := Try.checked }
namespace Rows
def none {H : Type} : Left H := { results := [], args := [] }

/-- 'kissinggatelaw11.RouteFinds': WHATEVER THE INPUT: true; the input reads as it did. -/
def routeFindsSpec : ChangeSpec := { name := "routeFinds", fn := fun _ => fun
  | [d1, d2] => { results := [.lit (.bool true)], args := [d1, d2] }
  | _ => none }
def routeFindsRow : OpenClaim := { program := "yteocoijkfkoddaa", sum := "139e75d2f7155a8d684cc95d9feaa08b9aca54a98ee6911cf502c1be91b81607", func := "kissinggate/kissinggatelaw11.RouteFinds", spec := "routeFinds", inPlace := ["sync/atomic.StorePointer", "sync/atomic.LoadPointer", "sync/atomic.CompareAndSwapPointer", "slices.overlaps[string]"], unfollowed := true, recurses := true, apart := false }
def RouteFindsSaid : Prop := routeFindsRow.holds Try.pinned (OpenSpec.ofChange routeFindsSpec)

/-- ITS FALSE NEIGHBOUR: 'it returns false'. Refute it at one input. -/
def routeFindsWrong : ChangeSpec := { name := "routeFinds", fn := fun _ => fun
  | [d1, d2] => { results := [.lit (.bool false)], args := [d1, d2] }
  | _ => none }
def RouteFindsWrongFalsely : Prop := routeFindsRow.holds Try.pinned (OpenSpec.ofChange routeFindsWrong)

/-- 'kissinggatelaw11.RouteSplits': WHATEVER THE INPUT: true; the input reads as it did. -/
def routeSplitsSpec : ChangeSpec := { name := "routeSplits", fn := fun _ => fun
  | [d1, d2, d3] => { results := [.lit (.bool true)], args := [d1, d2, d3] }
  | _ => none }
def routeSplitsRow : OpenClaim := { program := "yteocoijkfkoddaa", sum := "139e75d2f7155a8d684cc95d9feaa08b9aca54a98ee6911cf502c1be91b81607", func := "kissinggate/kissinggatelaw11.RouteSplits", spec := "routeSplits", inPlace := ["sync/atomic.StorePointer", "sync/atomic.LoadPointer", "sync/atomic.CompareAndSwapPointer", "slices.overlaps[string]"], unfollowed := true, recurses := true, apart := false }
def RouteSplitsSaid : Prop := routeSplitsRow.holds Try.pinned (OpenSpec.ofChange routeSplitsSpec)

/-- ITS FALSE NEIGHBOUR: 'it returns false'. Refute it at one input. -/
def routeSplitsWrong : ChangeSpec := { name := "routeSplits", fn := fun _ => fun
  | [d1, d2, d3] => { results := [.lit (.bool false)], args := [d1, d2, d3] }
  | _ => none }
def RouteSplitsWrongFalsely : Prop := routeSplitsRow.holds Try.pinned (OpenSpec.ofChange routeSplitsWrong)

/-- 'kissinggatelaw11.RouteEven': WHATEVER THE INPUT: true; the input reads as it did. -/
def routeEvenSpec : ChangeSpec := { name := "routeEven", fn := fun _ => fun
  | [d1, d2] => { results := [.lit (.bool true)], args := [d1, d2] }
  | _ => none }
def routeEvenRow : OpenClaim := { program := "yteocoijkfkoddaa", sum := "139e75d2f7155a8d684cc95d9feaa08b9aca54a98ee6911cf502c1be91b81607", func := "kissinggate/kissinggatelaw11.RouteEven", spec := "routeEven", inPlace := ["sync/atomic.StorePointer", "sync/atomic.LoadPointer", "sync/atomic.CompareAndSwapPointer", "slices.overlaps[string]"], unfollowed := true, recurses := true, apart := false }
def RouteEvenSaid : Prop := routeEvenRow.holds Try.pinned (OpenSpec.ofChange routeEvenSpec)

/-- ITS FALSE NEIGHBOUR: 'it returns false'. Refute it at one input. -/
def routeEvenWrong : ChangeSpec := { name := "routeEven", fn := fun _ => fun
  | [d1, d2] => { results := [.lit (.bool false)], args := [d1, d2] }
  | _ => none }
def RouteEvenWrongFalsely : Prop := routeEvenRow.holds Try.pinned (OpenSpec.ofChange routeEvenWrong)

/- THE SECOND FORM. 'bulk': how many values and letters a reading holds, each counted each time it is reached (what is shared counts as often as it is met; a slice's spare places count too). A statement '..UptoSaid' is the law's where the arguments, and the package variables that the reading takes, are together of bulk at most 1048576: NARROWER than '..Said'. Prove '..Said' where nothing that the law and all that it calls make is longer than what came in: it says more and counts as full. Else prove '..UptoSaid'. A law counts once. -/
mutual
def uptoBulk {H : Type} : DataW H → Nat
  | .lit (.string bytes) => bytes.length + 1
  | .lit _ => 1
  | .nil => 1
  | .ptr d => uptoBulk d + 1
  | .slice elems spare => uptoBulkAll elems + uptoBulkAll spare + 1
  | .agg parts => uptoBulkAll parts + 1
  | .iface _ d => uptoBulk d + 1
  | .map entries => uptoBulkEntries entries + 1
  | .held _ => 1
def uptoBulkAll {H : Type} : List (DataW H) → Nat
  | [] => 0
  | d :: r => uptoBulk d + uptoBulkAll r
def uptoBulkEntries {H : Type} : List (Lit × DataW H) → Nat
  | [] => 0
  | x :: r => uptoBulkEntry x + uptoBulkEntries r
def uptoBulkEntry {H : Type} : Lit × DataW H → Nat
  | (.string bytes, d) => bytes.length + uptoBulk d + 1
  | (_, d) => uptoBulk d + 1
 end
def uptoSmall : (H : Type) → List (DataW H) → Bool := fun _ ds => decide (uptoBulkAll ds ≤ 1048576)
def OpenSpec.upto (s : _root_.Go.ChangeSpec) : _root_.Go.OpenSpec := { _root_.Go.OpenSpec.ofChange s with cond := some uptoSmall }

/-- 'kissinggatelaw11.RouteFinds', WHERE WHAT IT READS IS OF BULK AT MOST 1048576: true; the input reads as it did. -/
def routeFindsUptoRow : OpenClaim := { program := "yteocoijkfkoddaa", sum := "139e75d2f7155a8d684cc95d9feaa08b9aca54a98ee6911cf502c1be91b81607", func := "kissinggate/kissinggatelaw11.RouteFinds", spec := "routeFinds", inPlace := ["sync/atomic.StorePointer", "sync/atomic.LoadPointer", "sync/atomic.CompareAndSwapPointer", "slices.overlaps[string]"], unfollowed := true, recurses := true, apart := false, narrowed := true }
def RouteFindsUptoSaid : Prop := routeFindsUptoRow.holds Try.pinned (OpenSpec.upto routeFindsSpec)

/-- 'kissinggatelaw11.RouteSplits', WHERE WHAT IT READS IS OF BULK AT MOST 1048576: true; the input reads as it did. -/
def routeSplitsUptoRow : OpenClaim := { program := "yteocoijkfkoddaa", sum := "139e75d2f7155a8d684cc95d9feaa08b9aca54a98ee6911cf502c1be91b81607", func := "kissinggate/kissinggatelaw11.RouteSplits", spec := "routeSplits", inPlace := ["sync/atomic.StorePointer", "sync/atomic.LoadPointer", "sync/atomic.CompareAndSwapPointer", "slices.overlaps[string]"], unfollowed := true, recurses := true, apart := false, narrowed := true }
def RouteSplitsUptoSaid : Prop := routeSplitsUptoRow.holds Try.pinned (OpenSpec.upto routeSplitsSpec)

/-- 'kissinggatelaw11.RouteEven', WHERE WHAT IT READS IS OF BULK AT MOST 1048576: true; the input reads as it did. -/
def routeEvenUptoRow : OpenClaim := { program := "yteocoijkfkoddaa", sum := "139e75d2f7155a8d684cc95d9feaa08b9aca54a98ee6911cf502c1be91b81607", func := "kissinggate/kissinggatelaw11.RouteEven", spec := "routeEven", inPlace := ["sync/atomic.StorePointer", "sync/atomic.LoadPointer", "sync/atomic.CompareAndSwapPointer", "slices.overlaps[string]"], unfollowed := true, recurses := true, apart := false, narrowed := true }
def RouteEvenUptoSaid : Prop := routeEvenUptoRow.holds Try.pinned (OpenSpec.upto routeEvenSpec)

end Rows
end Go.Proofs.Yteocoijkfkoddaa
