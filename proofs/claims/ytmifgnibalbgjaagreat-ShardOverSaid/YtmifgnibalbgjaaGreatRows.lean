/-
  No cell of these rows narrows 'for every input' (looked for: loops, veiled, ifaces, maps, wideKeys, modest, calm, conditions, laid).
  DERIVED. THE GIVEN ROWS OF THIS SEAT. 6 by the template 'for every input the law returns true; each argument reads behind the call as it read before'; 0 by the template 'total and deterministic' (their statements: YtmifgnibalbgjaaGreatTotals.lean).
  GIVEN WITH THE SEED: the statements are not yours to turn. If you find one false, say at which input.
  Laid BY PROGRAM, IN A SANDBOX (cutbox-rows.mjs): the forced cells as the released guide's own fill.sh prints them over the translation 97aff68fb34613f9… (all of the seat's roots in one cut). By AI agents, Wed Nov 11 2026. No macro, syntax, notation, axiom, sorry.
-/
import Derived.Test.YtmifgnibalbgjaaGreatChecked
import GoSem.Claim
import GoSem.ClaimJoined
import GoSem.ClaimMapViews
import Derived.JoinedTies
import Derived.KernelRfl
namespace Go.Proofs.YtmifgnibalbgjaaGreat
/- THE CELL 'sum', in the pinned program and in every row, IS THE sha256 OF THE DUMP (.gsa) THAT YtmifgnibalbgjaaGreatProg.lean LOADS. Nothing in Lean hashes anything: it is a label: what it is worth is what the hold of that sum in a sandbox is worth. -/
noncomputable def Tryz.pinned : Pinned := { name := "ytmifgnibalbgjaagreat", sum := "97aff68fb34613f9e65993094e48284c7c1cdf029a0018c3d448b4f70f566fc3", checked := Tryz.checked }
namespace Rows
def none {H : Type} : Left H := { results := [], args := [] }

/-- 'kissinggatelaw17.ShardLocked': WHATEVER THE INPUT: true; the input reads as it did. -/
def shardLockedSpec : ChangeSpec := { name := "shardLocked", fn := fun _ => fun
  | [d] => { results := [.lit (.bool true)], args := [d] }
  | _ => none }
def shardLockedRow : OpenClaim := { program := "ytmifgnibalbgjaagreat", sum := "97aff68fb34613f9e65993094e48284c7c1cdf029a0018c3d448b4f70f566fc3", func := "kissinggate/kissinggatelaw17.ShardLocked", spec := "shardLocked", inPlace := ["slices.overlaps[kissinggate/api.Hold]", "slices.overlaps[kissinggate/api.Row]", "slices.overlaps[kissinggate/api.Line]", "slices.overlaps[kissinggate/api.Write]"], unfollowed := true, recurses := true, apart := false }
def ShardLockedSaid : Prop := shardLockedRow.holds Tryz.pinned (OpenSpec.ofChange shardLockedSpec)

/-- ITS FALSE NEIGHBOUR: 'it returns false'. Refute it at one input. -/
def shardLockedWrong : ChangeSpec := { name := "shardLocked", fn := fun _ => fun
  | [d] => { results := [.lit (.bool false)], args := [d] }
  | _ => none }
def ShardLockedWrongFalsely : Prop := shardLockedRow.holds Tryz.pinned (OpenSpec.ofChange shardLockedWrong)

/-- 'kissinggatelaw17.ShardHidden': WHATEVER THE INPUT: true; the input reads as it did. -/
def shardHiddenSpec : ChangeSpec := { name := "shardHidden", fn := fun _ => fun
  | [d] => { results := [.lit (.bool true)], args := [d] }
  | _ => none }
def shardHiddenRow : OpenClaim := { program := "ytmifgnibalbgjaagreat", sum := "97aff68fb34613f9e65993094e48284c7c1cdf029a0018c3d448b4f70f566fc3", func := "kissinggate/kissinggatelaw17.ShardHidden", spec := "shardHidden", inPlace := ["slices.overlaps[kissinggate/api.Hold]", "slices.overlaps[kissinggate/api.Row]", "slices.overlaps[kissinggate/api.Line]", "slices.overlaps[kissinggate/api.Write]"], unfollowed := true, recurses := true, apart := false }
def ShardHiddenSaid : Prop := shardHiddenRow.holds Tryz.pinned (OpenSpec.ofChange shardHiddenSpec)

/-- ITS FALSE NEIGHBOUR: 'it returns false'. Refute it at one input. -/
def shardHiddenWrong : ChangeSpec := { name := "shardHidden", fn := fun _ => fun
  | [d] => { results := [.lit (.bool false)], args := [d] }
  | _ => none }
def ShardHiddenWrongFalsely : Prop := shardHiddenRow.holds Tryz.pinned (OpenSpec.ofChange shardHiddenWrong)

/-- 'kissinggatelaw17.ShardOver': WHATEVER THE INPUT: true; the input reads as it did. -/
def shardOverSpec : ChangeSpec := { name := "shardOver", fn := fun _ => fun
  | [d1, d2, d3, d4, d5] => { results := [.lit (.bool true)], args := [d1, d2, d3, d4, d5] }
  | _ => none }
def shardOverRow : OpenClaim := { program := "ytmifgnibalbgjaagreat", sum := "97aff68fb34613f9e65993094e48284c7c1cdf029a0018c3d448b4f70f566fc3", func := "kissinggate/kissinggatelaw17.ShardOver", spec := "shardOver", inPlace := ["slices.overlaps[kissinggate/api.Hold]", "slices.overlaps[kissinggate/api.Row]", "slices.overlaps[kissinggate/api.Line]", "slices.overlaps[kissinggate/api.Write]"], unfollowed := true, recurses := true, apart := false }
def ShardOverSaid : Prop := shardOverRow.holds Tryz.pinned (OpenSpec.ofChange shardOverSpec)

/-- ITS FALSE NEIGHBOUR: 'it returns false'. Refute it at one input. -/
def shardOverWrong : ChangeSpec := { name := "shardOver", fn := fun _ => fun
  | [d1, d2, d3, d4, d5] => { results := [.lit (.bool false)], args := [d1, d2, d3, d4, d5] }
  | _ => none }
def ShardOverWrongFalsely : Prop := shardOverRow.holds Tryz.pinned (OpenSpec.ofChange shardOverWrong)

/-- 'kissinggatelaw17.ShardFrom': WHATEVER THE INPUT: true; the input reads as it did. -/
def shardFromSpec : ChangeSpec := { name := "shardFrom", fn := fun _ => fun
  | [d1, d2] => { results := [.lit (.bool true)], args := [d1, d2] }
  | _ => none }
def shardFromRow : OpenClaim := { program := "ytmifgnibalbgjaagreat", sum := "97aff68fb34613f9e65993094e48284c7c1cdf029a0018c3d448b4f70f566fc3", func := "kissinggate/kissinggatelaw17.ShardFrom", spec := "shardFrom", inPlace := ["slices.overlaps[kissinggate/api.Hold]", "slices.overlaps[kissinggate/api.Row]", "slices.overlaps[kissinggate/api.Line]", "slices.overlaps[kissinggate/api.Write]"], unfollowed := true, recurses := true, apart := false }
def ShardFromSaid : Prop := shardFromRow.holds Tryz.pinned (OpenSpec.ofChange shardFromSpec)

/-- ITS FALSE NEIGHBOUR: 'it returns false'. Refute it at one input. -/
def shardFromWrong : ChangeSpec := { name := "shardFrom", fn := fun _ => fun
  | [d1, d2] => { results := [.lit (.bool false)], args := [d1, d2] }
  | _ => none }
def ShardFromWrongFalsely : Prop := shardFromRow.holds Tryz.pinned (OpenSpec.ofChange shardFromWrong)

/-- 'kissinggatelaw17.ShardRaw': WHATEVER THE INPUT: true; the input reads as it did. -/
def shardRawSpec : ChangeSpec := { name := "shardRaw", fn := fun _ => fun
  | [d1, d2] => { results := [.lit (.bool true)], args := [d1, d2] }
  | _ => none }
def shardRawRow : OpenClaim := { program := "ytmifgnibalbgjaagreat", sum := "97aff68fb34613f9e65993094e48284c7c1cdf029a0018c3d448b4f70f566fc3", func := "kissinggate/kissinggatelaw17.ShardRaw", spec := "shardRaw", inPlace := ["slices.overlaps[kissinggate/api.Hold]", "slices.overlaps[kissinggate/api.Row]", "slices.overlaps[kissinggate/api.Line]", "slices.overlaps[kissinggate/api.Write]"], unfollowed := true, recurses := true, apart := false }
def ShardRawSaid : Prop := shardRawRow.holds Tryz.pinned (OpenSpec.ofChange shardRawSpec)

/-- ITS FALSE NEIGHBOUR: 'it returns false'. Refute it at one input. -/
def shardRawWrong : ChangeSpec := { name := "shardRaw", fn := fun _ => fun
  | [d1, d2] => { results := [.lit (.bool false)], args := [d1, d2] }
  | _ => none }
def ShardRawWrongFalsely : Prop := shardRawRow.holds Tryz.pinned (OpenSpec.ofChange shardRawWrong)

/-- 'kissinggatelaw17.ShardPlays': WHATEVER THE INPUT: true; the input reads as it did. -/
def shardPlaysSpec : ChangeSpec := { name := "shardPlays", fn := fun _ => fun
  | [d1, d2, d3, d4] => { results := [.lit (.bool true)], args := [d1, d2, d3, d4] }
  | _ => none }
def shardPlaysRow : OpenClaim := { program := "ytmifgnibalbgjaagreat", sum := "97aff68fb34613f9e65993094e48284c7c1cdf029a0018c3d448b4f70f566fc3", func := "kissinggate/kissinggatelaw17.ShardPlays", spec := "shardPlays", inPlace := ["slices.overlaps[kissinggate/api.Hold]", "slices.overlaps[kissinggate/api.Row]", "slices.overlaps[kissinggate/api.Line]", "slices.overlaps[kissinggate/api.Write]"], unfollowed := true, recurses := true, apart := false }
def ShardPlaysSaid : Prop := shardPlaysRow.holds Tryz.pinned (OpenSpec.ofChange shardPlaysSpec)

/-- ITS FALSE NEIGHBOUR: 'it returns false'. Refute it at one input. -/
def shardPlaysWrong : ChangeSpec := { name := "shardPlays", fn := fun _ => fun
  | [d1, d2, d3, d4] => { results := [.lit (.bool false)], args := [d1, d2, d3, d4] }
  | _ => none }
def ShardPlaysWrongFalsely : Prop := shardPlaysRow.holds Tryz.pinned (OpenSpec.ofChange shardPlaysWrong)

/- THE SECOND FORM. 'bulk': how many values and letters a reading holds, each counted each time it is reached (what is shared counts as often as it is met; a slice's spare places count too). A statement '..UptoSaid' is the law's where the arguments, and the package variables that the reading takes, are together of bulk at most 1048576: NARROWER than '..Said'. Prove '..Said' where nothing that the law and all that it calls make is longer than what came in: it says more and counts as full. Else prove '..UptoSaid'. A law counts once. -/
mutual
def uptoBulk {H : Type} : DataW H → Nat
  | .lit (.string bytes) => bytes.length + 1
  | .lit _ => 1
  | .nil => 1
  | .ptr d => uptoBulk d + 1
  | .slice elems spare => uptoBulkAll elems + uptoBulkAll spare + 1
  | .agg parts => uptoBulkAll parts + 1
  | .iface _ d => uptoBulk d + 1
  | .map entries => uptoBulkEntries entries + 1
  | .held _ => 1
def uptoBulkAll {H : Type} : List (DataW H) → Nat
  | [] => 0
  | d :: r => uptoBulk d + uptoBulkAll r
def uptoBulkEntries {H : Type} : List (Lit × DataW H) → Nat
  | [] => 0
  | x :: r => uptoBulkEntry x + uptoBulkEntries r
def uptoBulkEntry {H : Type} : Lit × DataW H → Nat
  | (.string bytes, d) => bytes.length + uptoBulk d + 1
  | (_, d) => uptoBulk d + 1
 end
def uptoSmall : (H : Type) → List (DataW H) → Bool := fun _ ds => decide (uptoBulkAll ds ≤ 1048576)
def OpenSpec.upto (s : _root_.Go.ChangeSpec) : _root_.Go.OpenSpec := { _root_.Go.OpenSpec.ofChange s with cond := some uptoSmall }

/-- 'kissinggatelaw17.ShardLocked', WHERE WHAT IT READS IS OF BULK AT MOST 1048576: true; the input reads as it did. -/
def shardLockedUptoRow : OpenClaim := { program := "ytmifgnibalbgjaagreat", sum := "97aff68fb34613f9e65993094e48284c7c1cdf029a0018c3d448b4f70f566fc3", func := "kissinggate/kissinggatelaw17.ShardLocked", spec := "shardLocked", inPlace := ["slices.overlaps[kissinggate/api.Hold]", "slices.overlaps[kissinggate/api.Row]", "slices.overlaps[kissinggate/api.Line]", "slices.overlaps[kissinggate/api.Write]"], unfollowed := true, recurses := true, apart := false, narrowed := true }
def ShardLockedUptoSaid : Prop := shardLockedUptoRow.holds Tryz.pinned (OpenSpec.upto shardLockedSpec)

/-- 'kissinggatelaw17.ShardHidden', WHERE WHAT IT READS IS OF BULK AT MOST 1048576: true; the input reads as it did. -/
def shardHiddenUptoRow : OpenClaim := { program := "ytmifgnibalbgjaagreat", sum := "97aff68fb34613f9e65993094e48284c7c1cdf029a0018c3d448b4f70f566fc3", func := "kissinggate/kissinggatelaw17.ShardHidden", spec := "shardHidden", inPlace := ["slices.overlaps[kissinggate/api.Hold]", "slices.overlaps[kissinggate/api.Row]", "slices.overlaps[kissinggate/api.Line]", "slices.overlaps[kissinggate/api.Write]"], unfollowed := true, recurses := true, apart := false, narrowed := true }
def ShardHiddenUptoSaid : Prop := shardHiddenUptoRow.holds Tryz.pinned (OpenSpec.upto shardHiddenSpec)

/-- 'kissinggatelaw17.ShardOver', WHERE WHAT IT READS IS OF BULK AT MOST 1048576: true; the input reads as it did. -/
def shardOverUptoRow : OpenClaim := { program := "ytmifgnibalbgjaagreat", sum := "97aff68fb34613f9e65993094e48284c7c1cdf029a0018c3d448b4f70f566fc3", func := "kissinggate/kissinggatelaw17.ShardOver", spec := "shardOver", inPlace := ["slices.overlaps[kissinggate/api.Hold]", "slices.overlaps[kissinggate/api.Row]", "slices.overlaps[kissinggate/api.Line]", "slices.overlaps[kissinggate/api.Write]"], unfollowed := true, recurses := true, apart := false, narrowed := true }
def ShardOverUptoSaid : Prop := shardOverUptoRow.holds Tryz.pinned (OpenSpec.upto shardOverSpec)

/-- 'kissinggatelaw17.ShardFrom', WHERE WHAT IT READS IS OF BULK AT MOST 1048576: true; the input reads as it did. -/
def shardFromUptoRow : OpenClaim := { program := "ytmifgnibalbgjaagreat", sum := "97aff68fb34613f9e65993094e48284c7c1cdf029a0018c3d448b4f70f566fc3", func := "kissinggate/kissinggatelaw17.ShardFrom", spec := "shardFrom", inPlace := ["slices.overlaps[kissinggate/api.Hold]", "slices.overlaps[kissinggate/api.Row]", "slices.overlaps[kissinggate/api.Line]", "slices.overlaps[kissinggate/api.Write]"], unfollowed := true, recurses := true, apart := false, narrowed := true }
def ShardFromUptoSaid : Prop := shardFromUptoRow.holds Tryz.pinned (OpenSpec.upto shardFromSpec)

/-- 'kissinggatelaw17.ShardRaw', WHERE WHAT IT READS IS OF BULK AT MOST 1048576: true; the input reads as it did. -/
def shardRawUptoRow : OpenClaim := { program := "ytmifgnibalbgjaagreat", sum := "97aff68fb34613f9e65993094e48284c7c1cdf029a0018c3d448b4f70f566fc3", func := "kissinggate/kissinggatelaw17.ShardRaw", spec := "shardRaw", inPlace := ["slices.overlaps[kissinggate/api.Hold]", "slices.overlaps[kissinggate/api.Row]", "slices.overlaps[kissinggate/api.Line]", "slices.overlaps[kissinggate/api.Write]"], unfollowed := true, recurses := true, apart := false, narrowed := true }
def ShardRawUptoSaid : Prop := shardRawUptoRow.holds Tryz.pinned (OpenSpec.upto shardRawSpec)

/-- 'kissinggatelaw17.ShardPlays', WHERE WHAT IT READS IS OF BULK AT MOST 1048576: true; the input reads as it did. -/
def shardPlaysUptoRow : OpenClaim := { program := "ytmifgnibalbgjaagreat", sum := "97aff68fb34613f9e65993094e48284c7c1cdf029a0018c3d448b4f70f566fc3", func := "kissinggate/kissinggatelaw17.ShardPlays", spec := "shardPlays", inPlace := ["slices.overlaps[kissinggate/api.Hold]", "slices.overlaps[kissinggate/api.Row]", "slices.overlaps[kissinggate/api.Line]", "slices.overlaps[kissinggate/api.Write]"], unfollowed := true, recurses := true, apart := false, narrowed := true }
def ShardPlaysUptoSaid : Prop := shardPlaysUptoRow.holds Tryz.pinned (OpenSpec.upto shardPlaysSpec)

end Rows
end Go.Proofs.YtmifgnibalbgjaaGreat
