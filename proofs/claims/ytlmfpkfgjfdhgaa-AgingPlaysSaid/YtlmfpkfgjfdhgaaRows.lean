/-
  No cell of these rows narrows 'for every input' (looked for: loops, veiled, ifaces, maps, wideKeys, modest, calm, conditions, laid).
  DERIVED. THE GIVEN ROWS OF THIS SEAT. 4 by the template 'for every input the law returns true; each argument reads behind the call as it read before'; 0 by the template 'total and deterministic' (their statements: YtlmfpkfgjfdhgaaTotals.lean).
  GIVEN WITH THE SEED: the statements are not yours to turn. If you find one false, say at which input.
  Laid BY PROGRAM, IN A SANDBOX (cutbox-rows.mjs): the forced cells as the released guide's own fill.sh prints them over the translation 2acec181dec71fa5… (all of the seat's roots in one cut). By AI agents, Wed Nov 11 2026. No macro, syntax, notation, axiom, sorry.
-/
import Derived.Test.YtlmfpkfgjfdhgaaChecked
import GoSem.Claim
import GoSem.ClaimJoined
import GoSem.ClaimMapViews
import Derived.JoinedTies
import Derived.KernelRfl
namespace Go.Proofs.Ytlmfpkfgjfdhgaa
/- THE CELL 'sum', in the pinned program and in every row, IS THE sha256 OF THE DUMP (.gsa) THAT YtlmfpkfgjfdhgaaProg.lean LOADS. Nothing in Lean hashes anything: it is a label: what it is worth is what the hold of that sum in a sandbox is worth. -/
noncomputable def Try.pinned : Pinned := { name := "ytlmfpkfgjfdhgaa", sum := "2acec181dec71fa5278560fea36c55b710cfe67378294982a48041504099f775", checked := Try.checked }
namespace Rows
def none {H : Type} : Left H := { results := [], args := [] }

/-- 'kissinggatelaw42.AgingCycles': WHATEVER THE INPUT: true; the input reads as it did. -/
def agingCyclesSpec : ChangeSpec := { name := "agingCycles", fn := fun _ => fun
  | [d1, d2] => { results := [.lit (.bool true)], args := [d1, d2] }
  | _ => none }
def agingCyclesRow : OpenClaim := { program := "ytlmfpkfgjfdhgaa", sum := "2acec181dec71fa5278560fea36c55b710cfe67378294982a48041504099f775", func := "kissinggate/kissinggatelaw42.AgingCycles", spec := "agingCycles", inPlace := ["slices.overlaps[kissinggate/aging.member]", "slices.overlaps[kissinggate/aging.lock]"], unfollowed := true, recurses := true, apart := false }
def AgingCyclesSaid : Prop := agingCyclesRow.holds Try.pinned (OpenSpec.ofChange agingCyclesSpec)

/-- ITS FALSE NEIGHBOUR: 'it returns false'. Refute it at one input. -/
def agingCyclesWrong : ChangeSpec := { name := "agingCycles", fn := fun _ => fun
  | [d1, d2] => { results := [.lit (.bool false)], args := [d1, d2] }
  | _ => none }
def AgingCyclesWrongFalsely : Prop := agingCyclesRow.holds Try.pinned (OpenSpec.ofChange agingCyclesWrong)

/-- 'kissinggatelaw42.AgingEldest': WHATEVER THE INPUT: true; the input reads as it did. -/
def agingEldestSpec : ChangeSpec := { name := "agingEldest", fn := fun _ => fun
  | [d1, d2] => { results := [.lit (.bool true)], args := [d1, d2] }
  | _ => none }
def agingEldestRow : OpenClaim := { program := "ytlmfpkfgjfdhgaa", sum := "2acec181dec71fa5278560fea36c55b710cfe67378294982a48041504099f775", func := "kissinggate/kissinggatelaw42.AgingEldest", spec := "agingEldest", inPlace := ["slices.overlaps[kissinggate/aging.member]", "slices.overlaps[kissinggate/aging.lock]"], unfollowed := true, recurses := true, apart := false }
def AgingEldestSaid : Prop := agingEldestRow.holds Try.pinned (OpenSpec.ofChange agingEldestSpec)

/-- ITS FALSE NEIGHBOUR: 'it returns false'. Refute it at one input. -/
def agingEldestWrong : ChangeSpec := { name := "agingEldest", fn := fun _ => fun
  | [d1, d2] => { results := [.lit (.bool false)], args := [d1, d2] }
  | _ => none }
def AgingEldestWrongFalsely : Prop := agingEldestRow.holds Try.pinned (OpenSpec.ofChange agingEldestWrong)

/-- 'kissinggatelaw42.AgingPlays': WHATEVER THE INPUT: true; the input reads as it did. -/
def agingPlaysSpec : ChangeSpec := { name := "agingPlays", fn := fun _ => fun
  | [d1, d2] => { results := [.lit (.bool true)], args := [d1, d2] }
  | _ => none }
def agingPlaysRow : OpenClaim := { program := "ytlmfpkfgjfdhgaa", sum := "2acec181dec71fa5278560fea36c55b710cfe67378294982a48041504099f775", func := "kissinggate/kissinggatelaw42.AgingPlays", spec := "agingPlays", inPlace := ["slices.overlaps[kissinggate/aging.member]", "slices.overlaps[kissinggate/aging.lock]"], unfollowed := true, recurses := true, apart := false }
def AgingPlaysSaid : Prop := agingPlaysRow.holds Try.pinned (OpenSpec.ofChange agingPlaysSpec)

/-- ITS FALSE NEIGHBOUR: 'it returns false'. Refute it at one input. -/
def agingPlaysWrong : ChangeSpec := { name := "agingPlays", fn := fun _ => fun
  | [d1, d2] => { results := [.lit (.bool false)], args := [d1, d2] }
  | _ => none }
def AgingPlaysWrongFalsely : Prop := agingPlaysRow.holds Try.pinned (OpenSpec.ofChange agingPlaysWrong)

/-- 'kissinggatelaw42.AgingEnds': WHATEVER THE INPUT: true; the input reads as it did. -/
def agingEndsSpec : ChangeSpec := { name := "agingEnds", fn := fun _ => fun
  | [d1, d2, d3] => { results := [.lit (.bool true)], args := [d1, d2, d3] }
  | _ => none }
def agingEndsRow : OpenClaim := { program := "ytlmfpkfgjfdhgaa", sum := "2acec181dec71fa5278560fea36c55b710cfe67378294982a48041504099f775", func := "kissinggate/kissinggatelaw42.AgingEnds", spec := "agingEnds", inPlace := ["slices.overlaps[kissinggate/aging.member]", "slices.overlaps[kissinggate/aging.lock]"], unfollowed := true, recurses := true, apart := false }
def AgingEndsSaid : Prop := agingEndsRow.holds Try.pinned (OpenSpec.ofChange agingEndsSpec)

/-- ITS FALSE NEIGHBOUR: 'it returns false'. Refute it at one input. -/
def agingEndsWrong : ChangeSpec := { name := "agingEnds", fn := fun _ => fun
  | [d1, d2, d3] => { results := [.lit (.bool false)], args := [d1, d2, d3] }
  | _ => none }
def AgingEndsWrongFalsely : Prop := agingEndsRow.holds Try.pinned (OpenSpec.ofChange agingEndsWrong)

/- THE SECOND FORM. 'bulk': how many values and letters a reading holds, each counted each time it is reached (what is shared counts as often as it is met; a slice's spare places count too). A statement '..UptoSaid' is the law's where the arguments, and the package variables that the reading takes, are together of bulk at most 1048576: NARROWER than '..Said'. Prove '..Said' where nothing that the law and all that it calls make is longer than what came in: it says more and counts as full. Else prove '..UptoSaid'. A law counts once. -/
mutual
def uptoBulk {H : Type} : DataW H → Nat
  | .lit (.string bytes) => bytes.length + 1
  | .lit _ => 1
  | .nil => 1
  | .ptr d => uptoBulk d + 1
  | .slice elems spare => uptoBulkAll elems + uptoBulkAll spare + 1
  | .agg parts => uptoBulkAll parts + 1
  | .iface _ d => uptoBulk d + 1
  | .map entries => uptoBulkEntries entries + 1
  | .held _ => 1
def uptoBulkAll {H : Type} : List (DataW H) → Nat
  | [] => 0
  | d :: r => uptoBulk d + uptoBulkAll r
def uptoBulkEntries {H : Type} : List (Lit × DataW H) → Nat
  | [] => 0
  | x :: r => uptoBulkEntry x + uptoBulkEntries r
def uptoBulkEntry {H : Type} : Lit × DataW H → Nat
  | (.string bytes, d) => bytes.length + uptoBulk d + 1
  | (_, d) => uptoBulk d + 1
 end
def uptoSmall : (H : Type) → List (DataW H) → Bool := fun _ ds => decide (uptoBulkAll ds ≤ 1048576)
def OpenSpec.upto (s : _root_.Go.ChangeSpec) : _root_.Go.OpenSpec := { _root_.Go.OpenSpec.ofChange s with cond := some uptoSmall }

/-- 'kissinggatelaw42.AgingCycles', WHERE WHAT IT READS IS OF BULK AT MOST 1048576: true; the input reads as it did. -/
def agingCyclesUptoRow : OpenClaim := { program := "ytlmfpkfgjfdhgaa", sum := "2acec181dec71fa5278560fea36c55b710cfe67378294982a48041504099f775", func := "kissinggate/kissinggatelaw42.AgingCycles", spec := "agingCycles", inPlace := ["slices.overlaps[kissinggate/aging.member]", "slices.overlaps[kissinggate/aging.lock]"], unfollowed := true, recurses := true, apart := false, narrowed := true }
def AgingCyclesUptoSaid : Prop := agingCyclesUptoRow.holds Try.pinned (OpenSpec.upto agingCyclesSpec)

/-- 'kissinggatelaw42.AgingEldest', WHERE WHAT IT READS IS OF BULK AT MOST 1048576: true; the input reads as it did. -/
def agingEldestUptoRow : OpenClaim := { program := "ytlmfpkfgjfdhgaa", sum := "2acec181dec71fa5278560fea36c55b710cfe67378294982a48041504099f775", func := "kissinggate/kissinggatelaw42.AgingEldest", spec := "agingEldest", inPlace := ["slices.overlaps[kissinggate/aging.member]", "slices.overlaps[kissinggate/aging.lock]"], unfollowed := true, recurses := true, apart := false, narrowed := true }
def AgingEldestUptoSaid : Prop := agingEldestUptoRow.holds Try.pinned (OpenSpec.upto agingEldestSpec)

/-- 'kissinggatelaw42.AgingPlays', WHERE WHAT IT READS IS OF BULK AT MOST 1048576: true; the input reads as it did. -/
def agingPlaysUptoRow : OpenClaim := { program := "ytlmfpkfgjfdhgaa", sum := "2acec181dec71fa5278560fea36c55b710cfe67378294982a48041504099f775", func := "kissinggate/kissinggatelaw42.AgingPlays", spec := "agingPlays", inPlace := ["slices.overlaps[kissinggate/aging.member]", "slices.overlaps[kissinggate/aging.lock]"], unfollowed := true, recurses := true, apart := false, narrowed := true }
def AgingPlaysUptoSaid : Prop := agingPlaysUptoRow.holds Try.pinned (OpenSpec.upto agingPlaysSpec)

/-- 'kissinggatelaw42.AgingEnds', WHERE WHAT IT READS IS OF BULK AT MOST 1048576: true; the input reads as it did. -/
def agingEndsUptoRow : OpenClaim := { program := "ytlmfpkfgjfdhgaa", sum := "2acec181dec71fa5278560fea36c55b710cfe67378294982a48041504099f775", func := "kissinggate/kissinggatelaw42.AgingEnds", spec := "agingEnds", inPlace := ["slices.overlaps[kissinggate/aging.member]", "slices.overlaps[kissinggate/aging.lock]"], unfollowed := true, recurses := true, apart := false, narrowed := true }
def AgingEndsUptoSaid : Prop := agingEndsUptoRow.holds Try.pinned (OpenSpec.upto agingEndsSpec)

end Rows
end Go.Proofs.Ytlmfpkfgjfdhgaa
