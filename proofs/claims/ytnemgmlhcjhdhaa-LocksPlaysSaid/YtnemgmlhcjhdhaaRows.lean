/-
  No cell of these rows narrows 'for every input' (looked for: loops, veiled, ifaces, maps, wideKeys, modest, calm, conditions, laid).
  DERIVED. THE GIVEN ROWS OF THIS SEAT. 6 by the template 'for every input the law returns true; each argument reads behind the call as it read before'; 0 by the template 'total and deterministic' (their statements: YtnemgmlhcjhdhaaTotals.lean).
  GIVEN WITH THE SEED: the statements are not yours to turn. If you find one false, say at which input.
  Laid BY PROGRAM, IN A SANDBOX (cutbox-rows.mjs): the forced cells as the released guide's own fill.sh prints them over the translation e576b2622f180519… (all of the seat's roots in one cut). By AI agents, Wed Nov 11 2026. No macro, syntax, notation, axiom, sorry.
-/
import Derived.Test.YtnemgmlhcjhdhaaChecked
import GoSem.Claim
import GoSem.ClaimJoined
import GoSem.ClaimMapViews
import Derived.JoinedTies
import Derived.KernelRfl
namespace Go.Proofs.Ytnemgmlhcjhdhaa
/- THE CELL 'sum', in the pinned program and in every row, IS THE sha256 OF THE DUMP (.gsa) THAT YtnemgmlhcjhdhaaProg.lean LOADS. Nothing in Lean hashes anything: it is a label: what it is worth is what the hold of that sum in a sandbox is worth. -/
noncomputable def Try.pinned : Pinned := { name := "ytnemgmlhcjhdhaa", sum := "e576b2622f180519eda4a9e17340ddc3530a3a16db83501d38c0e3db3c08a06c", checked := Try.checked }
namespace Rows
def none {H : Type} : Left H := { results := [], args := [] }

/-- 'kissinggatelaw12.LocksFair': WHATEVER THE INPUT: true; the input reads as it did. -/
def locksFairSpec : ChangeSpec := { name := "locksFair", fn := fun _ => fun
  | [d] => { results := [.lit (.bool true)], args := [d] }
  | _ => none }
def locksFairRow : OpenClaim := { program := "ytnemgmlhcjhdhaa", sum := "e576b2622f180519eda4a9e17340ddc3530a3a16db83501d38c0e3db3c08a06c", func := "kissinggate/kissinggatelaw12.LocksFair", spec := "locksFair", inPlace := ["slices.overlaps[kissinggate/api.Line]", "slices.overlaps[kissinggate/api.Hold]"], unfollowed := true, recurses := true, apart := false }
def LocksFairSaid : Prop := locksFairRow.holds Try.pinned (OpenSpec.ofChange locksFairSpec)

/-- ITS FALSE NEIGHBOUR: 'it returns false'. Refute it at one input. -/
def locksFairWrong : ChangeSpec := { name := "locksFair", fn := fun _ => fun
  | [d] => { results := [.lit (.bool false)], args := [d] }
  | _ => none }
def LocksFairWrongFalsely : Prop := locksFairRow.holds Try.pinned (OpenSpec.ofChange locksFairWrong)

/-- 'kissinggatelaw12.LocksFrom': WHATEVER THE INPUT: true; the input reads as it did. -/
def locksFromSpec : ChangeSpec := { name := "locksFrom", fn := fun _ => fun
  | [d1, d2, d3] => { results := [.lit (.bool true)], args := [d1, d2, d3] }
  | _ => none }
def locksFromRow : OpenClaim := { program := "ytnemgmlhcjhdhaa", sum := "e576b2622f180519eda4a9e17340ddc3530a3a16db83501d38c0e3db3c08a06c", func := "kissinggate/kissinggatelaw12.LocksFrom", spec := "locksFrom", inPlace := ["slices.overlaps[kissinggate/api.Line]", "slices.overlaps[kissinggate/api.Hold]"], unfollowed := true, recurses := true, apart := false }
def LocksFromSaid : Prop := locksFromRow.holds Try.pinned (OpenSpec.ofChange locksFromSpec)

/-- ITS FALSE NEIGHBOUR: 'it returns false'. Refute it at one input. -/
def locksFromWrong : ChangeSpec := { name := "locksFrom", fn := fun _ => fun
  | [d1, d2, d3] => { results := [.lit (.bool false)], args := [d1, d2, d3] }
  | _ => none }
def LocksFromWrongFalsely : Prop := locksFromRow.holds Try.pinned (OpenSpec.ofChange locksFromWrong)

/-- 'kissinggatelaw12.LocksSafe': WHATEVER THE INPUT: true; the input reads as it did. -/
def locksSafeSpec : ChangeSpec := { name := "locksSafe", fn := fun _ => fun
  | [d] => { results := [.lit (.bool true)], args := [d] }
  | _ => none }
def locksSafeRow : OpenClaim := { program := "ytnemgmlhcjhdhaa", sum := "e576b2622f180519eda4a9e17340ddc3530a3a16db83501d38c0e3db3c08a06c", func := "kissinggate/kissinggatelaw12.LocksSafe", spec := "locksSafe", inPlace := ["slices.overlaps[kissinggate/api.Line]", "slices.overlaps[kissinggate/api.Hold]"], unfollowed := true, recurses := true, apart := false }
def LocksSafeSaid : Prop := locksSafeRow.holds Try.pinned (OpenSpec.ofChange locksSafeSpec)

/-- ITS FALSE NEIGHBOUR: 'it returns false'. Refute it at one input. -/
def locksSafeWrong : ChangeSpec := { name := "locksSafe", fn := fun _ => fun
  | [d] => { results := [.lit (.bool false)], args := [d] }
  | _ => none }
def LocksSafeWrongFalsely : Prop := locksSafeRow.holds Try.pinned (OpenSpec.ofChange locksSafeWrong)

/-- 'kissinggatelaw12.LocksBlocked': WHATEVER THE INPUT: true; the input reads as it did. -/
def locksBlockedSpec : ChangeSpec := { name := "locksBlocked", fn := fun _ => fun
  | [d] => { results := [.lit (.bool true)], args := [d] }
  | _ => none }
def locksBlockedRow : OpenClaim := { program := "ytnemgmlhcjhdhaa", sum := "e576b2622f180519eda4a9e17340ddc3530a3a16db83501d38c0e3db3c08a06c", func := "kissinggate/kissinggatelaw12.LocksBlocked", spec := "locksBlocked", inPlace := ["slices.overlaps[kissinggate/api.Line]", "slices.overlaps[kissinggate/api.Hold]"], unfollowed := true, recurses := true, apart := false }
def LocksBlockedSaid : Prop := locksBlockedRow.holds Try.pinned (OpenSpec.ofChange locksBlockedSpec)

/-- ITS FALSE NEIGHBOUR: 'it returns false'. Refute it at one input. -/
def locksBlockedWrong : ChangeSpec := { name := "locksBlocked", fn := fun _ => fun
  | [d] => { results := [.lit (.bool false)], args := [d] }
  | _ => none }
def LocksBlockedWrongFalsely : Prop := locksBlockedRow.holds Try.pinned (OpenSpec.ofChange locksBlockedWrong)

/-- 'kissinggatelaw12.LocksAll': WHATEVER THE INPUT: true; the input reads as it did. -/
def locksAllSpec : ChangeSpec := { name := "locksAll", fn := fun _ => fun
  | [d1, d2] => { results := [.lit (.bool true)], args := [d1, d2] }
  | _ => none }
def locksAllRow : OpenClaim := { program := "ytnemgmlhcjhdhaa", sum := "e576b2622f180519eda4a9e17340ddc3530a3a16db83501d38c0e3db3c08a06c", func := "kissinggate/kissinggatelaw12.LocksAll", spec := "locksAll", inPlace := ["slices.overlaps[kissinggate/api.Line]", "slices.overlaps[kissinggate/api.Hold]"], unfollowed := true, recurses := true, apart := false }
def LocksAllSaid : Prop := locksAllRow.holds Try.pinned (OpenSpec.ofChange locksAllSpec)

/-- ITS FALSE NEIGHBOUR: 'it returns false'. Refute it at one input. -/
def locksAllWrong : ChangeSpec := { name := "locksAll", fn := fun _ => fun
  | [d1, d2] => { results := [.lit (.bool false)], args := [d1, d2] }
  | _ => none }
def LocksAllWrongFalsely : Prop := locksAllRow.holds Try.pinned (OpenSpec.ofChange locksAllWrong)

/-- 'kissinggatelaw12.LocksPlays': WHATEVER THE INPUT: true; the input reads as it did. -/
def locksPlaysSpec : ChangeSpec := { name := "locksPlays", fn := fun _ => fun
  | [d] => { results := [.lit (.bool true)], args := [d] }
  | _ => none }
def locksPlaysRow : OpenClaim := { program := "ytnemgmlhcjhdhaa", sum := "e576b2622f180519eda4a9e17340ddc3530a3a16db83501d38c0e3db3c08a06c", func := "kissinggate/kissinggatelaw12.LocksPlays", spec := "locksPlays", inPlace := ["slices.overlaps[kissinggate/api.Line]", "slices.overlaps[kissinggate/api.Hold]"], unfollowed := true, recurses := true, apart := false }
def LocksPlaysSaid : Prop := locksPlaysRow.holds Try.pinned (OpenSpec.ofChange locksPlaysSpec)

/-- ITS FALSE NEIGHBOUR: 'it returns false'. Refute it at one input. -/
def locksPlaysWrong : ChangeSpec := { name := "locksPlays", fn := fun _ => fun
  | [d] => { results := [.lit (.bool false)], args := [d] }
  | _ => none }
def LocksPlaysWrongFalsely : Prop := locksPlaysRow.holds Try.pinned (OpenSpec.ofChange locksPlaysWrong)

/- THE SECOND FORM. 'bulk': how many values and letters a reading holds, each counted each time it is reached (what is shared counts as often as it is met; a slice's spare places count too). A statement '..UptoSaid' is the law's where the arguments, and the package variables that the reading takes, are together of bulk at most 1048576: NARROWER than '..Said'. Prove '..Said' where nothing that the law and all that it calls make is longer than what came in: it says more and counts as full. Else prove '..UptoSaid'. A law counts once. -/
mutual
def uptoBulk {H : Type} : DataW H → Nat
  | .lit (.string bytes) => bytes.length + 1
  | .lit _ => 1
  | .nil => 1
  | .ptr d => uptoBulk d + 1
  | .slice elems spare => uptoBulkAll elems + uptoBulkAll spare + 1
  | .agg parts => uptoBulkAll parts + 1
  | .iface _ d => uptoBulk d + 1
  | .map entries => uptoBulkEntries entries + 1
  | .held _ => 1
def uptoBulkAll {H : Type} : List (DataW H) → Nat
  | [] => 0
  | d :: r => uptoBulk d + uptoBulkAll r
def uptoBulkEntries {H : Type} : List (Lit × DataW H) → Nat
  | [] => 0
  | x :: r => uptoBulkEntry x + uptoBulkEntries r
def uptoBulkEntry {H : Type} : Lit × DataW H → Nat
  | (.string bytes, d) => bytes.length + uptoBulk d + 1
  | (_, d) => uptoBulk d + 1
 end
def uptoSmall : (H : Type) → List (DataW H) → Bool := fun _ ds => decide (uptoBulkAll ds ≤ 1048576)
def OpenSpec.upto (s : _root_.Go.ChangeSpec) : _root_.Go.OpenSpec := { _root_.Go.OpenSpec.ofChange s with cond := some uptoSmall }

/-- 'kissinggatelaw12.LocksFair', WHERE WHAT IT READS IS OF BULK AT MOST 1048576: true; the input reads as it did. -/
def locksFairUptoRow : OpenClaim := { program := "ytnemgmlhcjhdhaa", sum := "e576b2622f180519eda4a9e17340ddc3530a3a16db83501d38c0e3db3c08a06c", func := "kissinggate/kissinggatelaw12.LocksFair", spec := "locksFair", inPlace := ["slices.overlaps[kissinggate/api.Line]", "slices.overlaps[kissinggate/api.Hold]"], unfollowed := true, recurses := true, apart := false, narrowed := true }
def LocksFairUptoSaid : Prop := locksFairUptoRow.holds Try.pinned (OpenSpec.upto locksFairSpec)

/-- 'kissinggatelaw12.LocksFrom', WHERE WHAT IT READS IS OF BULK AT MOST 1048576: true; the input reads as it did. -/
def locksFromUptoRow : OpenClaim := { program := "ytnemgmlhcjhdhaa", sum := "e576b2622f180519eda4a9e17340ddc3530a3a16db83501d38c0e3db3c08a06c", func := "kissinggate/kissinggatelaw12.LocksFrom", spec := "locksFrom", inPlace := ["slices.overlaps[kissinggate/api.Line]", "slices.overlaps[kissinggate/api.Hold]"], unfollowed := true, recurses := true, apart := false, narrowed := true }
def LocksFromUptoSaid : Prop := locksFromUptoRow.holds Try.pinned (OpenSpec.upto locksFromSpec)

/-- 'kissinggatelaw12.LocksSafe', WHERE WHAT IT READS IS OF BULK AT MOST 1048576: true; the input reads as it did. -/
def locksSafeUptoRow : OpenClaim := { program := "ytnemgmlhcjhdhaa", sum := "e576b2622f180519eda4a9e17340ddc3530a3a16db83501d38c0e3db3c08a06c", func := "kissinggate/kissinggatelaw12.LocksSafe", spec := "locksSafe", inPlace := ["slices.overlaps[kissinggate/api.Line]", "slices.overlaps[kissinggate/api.Hold]"], unfollowed := true, recurses := true, apart := false, narrowed := true }
def LocksSafeUptoSaid : Prop := locksSafeUptoRow.holds Try.pinned (OpenSpec.upto locksSafeSpec)

/-- 'kissinggatelaw12.LocksBlocked', WHERE WHAT IT READS IS OF BULK AT MOST 1048576: true; the input reads as it did. -/
def locksBlockedUptoRow : OpenClaim := { program := "ytnemgmlhcjhdhaa", sum := "e576b2622f180519eda4a9e17340ddc3530a3a16db83501d38c0e3db3c08a06c", func := "kissinggate/kissinggatelaw12.LocksBlocked", spec := "locksBlocked", inPlace := ["slices.overlaps[kissinggate/api.Line]", "slices.overlaps[kissinggate/api.Hold]"], unfollowed := true, recurses := true, apart := false, narrowed := true }
def LocksBlockedUptoSaid : Prop := locksBlockedUptoRow.holds Try.pinned (OpenSpec.upto locksBlockedSpec)

/-- 'kissinggatelaw12.LocksAll', WHERE WHAT IT READS IS OF BULK AT MOST 1048576: true; the input reads as it did. -/
def locksAllUptoRow : OpenClaim := { program := "ytnemgmlhcjhdhaa", sum := "e576b2622f180519eda4a9e17340ddc3530a3a16db83501d38c0e3db3c08a06c", func := "kissinggate/kissinggatelaw12.LocksAll", spec := "locksAll", inPlace := ["slices.overlaps[kissinggate/api.Line]", "slices.overlaps[kissinggate/api.Hold]"], unfollowed := true, recurses := true, apart := false, narrowed := true }
def LocksAllUptoSaid : Prop := locksAllUptoRow.holds Try.pinned (OpenSpec.upto locksAllSpec)

/-- 'kissinggatelaw12.LocksPlays', WHERE WHAT IT READS IS OF BULK AT MOST 1048576: true; the input reads as it did. -/
def locksPlaysUptoRow : OpenClaim := { program := "ytnemgmlhcjhdhaa", sum := "e576b2622f180519eda4a9e17340ddc3530a3a16db83501d38c0e3db3c08a06c", func := "kissinggate/kissinggatelaw12.LocksPlays", spec := "locksPlays", inPlace := ["slices.overlaps[kissinggate/api.Line]", "slices.overlaps[kissinggate/api.Hold]"], unfollowed := true, recurses := true, apart := false, narrowed := true }
def LocksPlaysUptoSaid : Prop := locksPlaysUptoRow.holds Try.pinned (OpenSpec.upto locksPlaysSpec)

end Rows
end Go.Proofs.Ytnemgmlhcjhdhaa
