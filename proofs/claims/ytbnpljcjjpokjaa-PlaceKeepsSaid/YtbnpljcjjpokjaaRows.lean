/-
  No cell of these rows narrows 'for every input' (looked for: loops, veiled, ifaces, maps, wideKeys, modest, calm, conditions, laid).
  DERIVED. THE GIVEN ROWS OF THIS SEAT. 8 by the template 'for every input the law returns true; each argument reads behind the call as it read before'; 0 by the template 'total and deterministic' (their statements: YtbnpljcjjpokjaaTotals.lean).
  GIVEN WITH THE SEED: the statements are not yours to turn. If you find one false, say at which input.
  Laid BY PROGRAM, IN A SANDBOX (cutbox-rows.mjs): the forced cells as the released guide's own fill.sh prints them over the translation be4eea84a553f957… (all of the seat's roots in one cut). By AI agents, Wed Nov 11 2026. No macro, syntax, notation, axiom, sorry.
-/
import Derived.Test.YtbnpljcjjpokjaaChecked
import GoSem.Claim
import GoSem.ClaimJoined
import GoSem.ClaimMapViews
import Derived.JoinedTies
import Derived.KernelRfl
namespace Go.Proofs.Ytbnpljcjjpokjaa
/- THE CELL 'sum', in the pinned program and in every row, IS THE sha256 OF THE DUMP (.gsa) THAT YtbnpljcjjpokjaaProg.lean LOADS. Nothing in Lean hashes anything: it is a label: what it is worth is what the hold of that sum in a sandbox is worth. -/
noncomputable def Try.pinned : Pinned := { name := "ytbnpljcjjpokjaa", sum := "be4eea84a553f9570e4b7c8a21be093a42b231c2944f60947923e3963a34419d", checked := Try.checked }
namespace Rows
def none {H : Type} : Left H := { results := [], args := [] }

/-- 'lockgatelaw16.ViewLive': WHATEVER THE INPUT: true; the input reads as it did. -/
def viewLiveSpec : ChangeSpec := { name := "viewLive", fn := fun _ => fun
  | [d1, d2, d3] => { results := [.lit (.bool true)], args := [d1, d2, d3] }
  | _ => none }
def viewLiveRow : OpenClaim := { program := "ytbnpljcjjpokjaa", sum := "be4eea84a553f9570e4b7c8a21be093a42b231c2944f60947923e3963a34419d", func := "lockgate/lockgatelaw16.ViewLive", spec := "viewLive", apart := false }
def ViewLiveSaid : Prop := viewLiveRow.holds Try.pinned (OpenSpec.ofChange viewLiveSpec)

/-- ITS FALSE NEIGHBOUR: 'it returns false'. Refute it at one input. -/
def viewLiveWrong : ChangeSpec := { name := "viewLive", fn := fun _ => fun
  | [d1, d2, d3] => { results := [.lit (.bool false)], args := [d1, d2, d3] }
  | _ => none }
def ViewLiveWrongFalsely : Prop := viewLiveRow.holds Try.pinned (OpenSpec.ofChange viewLiveWrong)

/-- 'lockgatelaw16.ViewIndex': WHATEVER THE INPUT: true; the input reads as it did. -/
def viewIndexSpec : ChangeSpec := { name := "viewIndex", fn := fun _ => fun
  | [d] => { results := [.lit (.bool true)], args := [d] }
  | _ => none }
def viewIndexRow : OpenClaim := { program := "ytbnpljcjjpokjaa", sum := "be4eea84a553f9570e4b7c8a21be093a42b231c2944f60947923e3963a34419d", func := "lockgate/lockgatelaw16.ViewIndex", spec := "viewIndex", apart := false }
def ViewIndexSaid : Prop := viewIndexRow.holds Try.pinned (OpenSpec.ofChange viewIndexSpec)

/-- ITS FALSE NEIGHBOUR: 'it returns false'. Refute it at one input. -/
def viewIndexWrong : ChangeSpec := { name := "viewIndex", fn := fun _ => fun
  | [d] => { results := [.lit (.bool false)], args := [d] }
  | _ => none }
def ViewIndexWrongFalsely : Prop := viewIndexRow.holds Try.pinned (OpenSpec.ofChange viewIndexWrong)

/-- 'lockgatelaw16.ViewNeighbours': WHATEVER THE INPUT: true; the input reads as it did. -/
def viewNeighboursSpec : ChangeSpec := { name := "viewNeighbours", fn := fun _ => fun
  | [d] => { results := [.lit (.bool true)], args := [d] }
  | _ => none }
def viewNeighboursRow : OpenClaim := { program := "ytbnpljcjjpokjaa", sum := "be4eea84a553f9570e4b7c8a21be093a42b231c2944f60947923e3963a34419d", func := "lockgate/lockgatelaw16.ViewNeighbours", spec := "viewNeighbours", apart := false }
def ViewNeighboursSaid : Prop := viewNeighboursRow.holds Try.pinned (OpenSpec.ofChange viewNeighboursSpec)

/-- ITS FALSE NEIGHBOUR: 'it returns false'. Refute it at one input. -/
def viewNeighboursWrong : ChangeSpec := { name := "viewNeighbours", fn := fun _ => fun
  | [d] => { results := [.lit (.bool false)], args := [d] }
  | _ => none }
def ViewNeighboursWrongFalsely : Prop := viewNeighboursRow.holds Try.pinned (OpenSpec.ofChange viewNeighboursWrong)

/-- 'lockgatelaw16.ViewAlls': WHATEVER THE INPUT: true; the input reads as it did. -/
def viewAllsSpec : ChangeSpec := { name := "viewAlls", fn := fun _ => fun
  | [d1, d2, d3, d4] => { results := [.lit (.bool true)], args := [d1, d2, d3, d4] }
  | _ => none }
def viewAllsRow : OpenClaim := { program := "ytbnpljcjjpokjaa", sum := "be4eea84a553f9570e4b7c8a21be093a42b231c2944f60947923e3963a34419d", func := "lockgate/lockgatelaw16.ViewAlls", spec := "viewAlls", apart := false }
def ViewAllsSaid : Prop := viewAllsRow.holds Try.pinned (OpenSpec.ofChange viewAllsSpec)

/-- ITS FALSE NEIGHBOUR: 'it returns false'. Refute it at one input. -/
def viewAllsWrong : ChangeSpec := { name := "viewAlls", fn := fun _ => fun
  | [d1, d2, d3, d4] => { results := [.lit (.bool false)], args := [d1, d2, d3, d4] }
  | _ => none }
def ViewAllsWrongFalsely : Prop := viewAllsRow.holds Try.pinned (OpenSpec.ofChange viewAllsWrong)

/-- 'lockgatelaw17.PlaceAlls': WHATEVER THE INPUT: true; the input reads as it did. -/
def placeAllsSpec : ChangeSpec := { name := "placeAlls", fn := fun _ => fun
  | [d1, d2, d3, d4, d5] => { results := [.lit (.bool true)], args := [d1, d2, d3, d4, d5] }
  | _ => none }
def placeAllsRow : OpenClaim := { program := "ytbnpljcjjpokjaa", sum := "be4eea84a553f9570e4b7c8a21be093a42b231c2944f60947923e3963a34419d", func := "lockgate/lockgatelaw17.PlaceAlls", spec := "placeAlls", unfollowed := true, recurses := true, apart := false }
def PlaceAllsSaid : Prop := placeAllsRow.holds Try.pinned (OpenSpec.ofChange placeAllsSpec)

/-- ITS FALSE NEIGHBOUR: 'it returns false'. Refute it at one input. -/
def placeAllsWrong : ChangeSpec := { name := "placeAlls", fn := fun _ => fun
  | [d1, d2, d3, d4, d5] => { results := [.lit (.bool false)], args := [d1, d2, d3, d4, d5] }
  | _ => none }
def PlaceAllsWrongFalsely : Prop := placeAllsRow.holds Try.pinned (OpenSpec.ofChange placeAllsWrong)

/-- 'lockgatelaw17.PlaceKeeps': WHATEVER THE INPUT: true; the input reads as it did. -/
def placeKeepsSpec : ChangeSpec := { name := "placeKeeps", fn := fun _ => fun
  | [d1, d2, d3, d4] => { results := [.lit (.bool true)], args := [d1, d2, d3, d4] }
  | _ => none }
def placeKeepsRow : OpenClaim := { program := "ytbnpljcjjpokjaa", sum := "be4eea84a553f9570e4b7c8a21be093a42b231c2944f60947923e3963a34419d", func := "lockgate/lockgatelaw17.PlaceKeeps", spec := "placeKeeps", unfollowed := true, recurses := true, apart := false }
def PlaceKeepsSaid : Prop := placeKeepsRow.holds Try.pinned (OpenSpec.ofChange placeKeepsSpec)

/-- ITS FALSE NEIGHBOUR: 'it returns false'. Refute it at one input. -/
def placeKeepsWrong : ChangeSpec := { name := "placeKeeps", fn := fun _ => fun
  | [d1, d2, d3, d4] => { results := [.lit (.bool false)], args := [d1, d2, d3, d4] }
  | _ => none }
def PlaceKeepsWrongFalsely : Prop := placeKeepsRow.holds Try.pinned (OpenSpec.ofChange placeKeepsWrong)

/-- 'lockgatelaw17.PlaceLead': WHATEVER THE INPUT: true; the input reads as it did. -/
def placeLeadSpec : ChangeSpec := { name := "placeLead", fn := fun _ => fun
  | [d1, d2] => { results := [.lit (.bool true)], args := [d1, d2] }
  | _ => none }
def placeLeadRow : OpenClaim := { program := "ytbnpljcjjpokjaa", sum := "be4eea84a553f9570e4b7c8a21be093a42b231c2944f60947923e3963a34419d", func := "lockgate/lockgatelaw17.PlaceLead", spec := "placeLead", unfollowed := true, recurses := true, apart := false }
def PlaceLeadSaid : Prop := placeLeadRow.holds Try.pinned (OpenSpec.ofChange placeLeadSpec)

/-- ITS FALSE NEIGHBOUR: 'it returns false'. Refute it at one input. -/
def placeLeadWrong : ChangeSpec := { name := "placeLead", fn := fun _ => fun
  | [d1, d2] => { results := [.lit (.bool false)], args := [d1, d2] }
  | _ => none }
def PlaceLeadWrongFalsely : Prop := placeLeadRow.holds Try.pinned (OpenSpec.ofChange placeLeadWrong)

/-- 'lockgatelaw17.PlaceMemory': WHATEVER THE INPUT: true; the input reads as it did. -/
def placeMemorySpec : ChangeSpec := { name := "placeMemory", fn := fun _ => fun
  | [d1, d2, d3] => { results := [.lit (.bool true)], args := [d1, d2, d3] }
  | _ => none }
def placeMemoryRow : OpenClaim := { program := "ytbnpljcjjpokjaa", sum := "be4eea84a553f9570e4b7c8a21be093a42b231c2944f60947923e3963a34419d", func := "lockgate/lockgatelaw17.PlaceMemory", spec := "placeMemory", unfollowed := true, recurses := true, apart := false }
def PlaceMemorySaid : Prop := placeMemoryRow.holds Try.pinned (OpenSpec.ofChange placeMemorySpec)

/-- ITS FALSE NEIGHBOUR: 'it returns false'. Refute it at one input. -/
def placeMemoryWrong : ChangeSpec := { name := "placeMemory", fn := fun _ => fun
  | [d1, d2, d3] => { results := [.lit (.bool false)], args := [d1, d2, d3] }
  | _ => none }
def PlaceMemoryWrongFalsely : Prop := placeMemoryRow.holds Try.pinned (OpenSpec.ofChange placeMemoryWrong)

/- THE SECOND FORM. 'bulk': how many values and letters a reading holds, each counted each time it is reached (what is shared counts as often as it is met; a slice's spare places count too). A statement '..UptoSaid' is the law's where the arguments, and the package variables that the reading takes, are together of bulk at most 1048576: NARROWER than '..Said'. Prove '..Said' where nothing that the law and all that it calls make is longer than what came in: it says more and counts as full. Else prove '..UptoSaid'. A law counts once. -/
mutual
def uptoBulk {H : Type} : DataW H → Nat
  | .lit (.string bytes) => bytes.length + 1
  | .lit _ => 1
  | .nil => 1
  | .ptr d => uptoBulk d + 1
  | .slice elems spare => uptoBulkAll elems + uptoBulkAll spare + 1
  | .agg parts => uptoBulkAll parts + 1
  | .iface _ d => uptoBulk d + 1
  | .map entries => uptoBulkEntries entries + 1
  | .held _ => 1
def uptoBulkAll {H : Type} : List (DataW H) → Nat
  | [] => 0
  | d :: r => uptoBulk d + uptoBulkAll r
def uptoBulkEntries {H : Type} : List (Lit × DataW H) → Nat
  | [] => 0
  | x :: r => uptoBulkEntry x + uptoBulkEntries r
def uptoBulkEntry {H : Type} : Lit × DataW H → Nat
  | (.string bytes, d) => bytes.length + uptoBulk d + 1
  | (_, d) => uptoBulk d + 1
 end
def uptoSmall : (H : Type) → List (DataW H) → Bool := fun _ ds => decide (uptoBulkAll ds ≤ 1048576)
def OpenSpec.upto (s : _root_.Go.ChangeSpec) : _root_.Go.OpenSpec := { _root_.Go.OpenSpec.ofChange s with cond := some uptoSmall }

/-- 'lockgatelaw16.ViewLive', WHERE WHAT IT READS IS OF BULK AT MOST 1048576: true; the input reads as it did. -/
def viewLiveUptoRow : OpenClaim := { program := "ytbnpljcjjpokjaa", sum := "be4eea84a553f9570e4b7c8a21be093a42b231c2944f60947923e3963a34419d", func := "lockgate/lockgatelaw16.ViewLive", spec := "viewLive", apart := false, narrowed := true }
def ViewLiveUptoSaid : Prop := viewLiveUptoRow.holds Try.pinned (OpenSpec.upto viewLiveSpec)

/-- 'lockgatelaw16.ViewIndex', WHERE WHAT IT READS IS OF BULK AT MOST 1048576: true; the input reads as it did. -/
def viewIndexUptoRow : OpenClaim := { program := "ytbnpljcjjpokjaa", sum := "be4eea84a553f9570e4b7c8a21be093a42b231c2944f60947923e3963a34419d", func := "lockgate/lockgatelaw16.ViewIndex", spec := "viewIndex", apart := false, narrowed := true }
def ViewIndexUptoSaid : Prop := viewIndexUptoRow.holds Try.pinned (OpenSpec.upto viewIndexSpec)

/-- 'lockgatelaw16.ViewNeighbours', WHERE WHAT IT READS IS OF BULK AT MOST 1048576: true; the input reads as it did. -/
def viewNeighboursUptoRow : OpenClaim := { program := "ytbnpljcjjpokjaa", sum := "be4eea84a553f9570e4b7c8a21be093a42b231c2944f60947923e3963a34419d", func := "lockgate/lockgatelaw16.ViewNeighbours", spec := "viewNeighbours", apart := false, narrowed := true }
def ViewNeighboursUptoSaid : Prop := viewNeighboursUptoRow.holds Try.pinned (OpenSpec.upto viewNeighboursSpec)

/-- 'lockgatelaw16.ViewAlls', WHERE WHAT IT READS IS OF BULK AT MOST 1048576: true; the input reads as it did. -/
def viewAllsUptoRow : OpenClaim := { program := "ytbnpljcjjpokjaa", sum := "be4eea84a553f9570e4b7c8a21be093a42b231c2944f60947923e3963a34419d", func := "lockgate/lockgatelaw16.ViewAlls", spec := "viewAlls", apart := false, narrowed := true }
def ViewAllsUptoSaid : Prop := viewAllsUptoRow.holds Try.pinned (OpenSpec.upto viewAllsSpec)

/-- 'lockgatelaw17.PlaceAlls', WHERE WHAT IT READS IS OF BULK AT MOST 1048576: true; the input reads as it did. -/
def placeAllsUptoRow : OpenClaim := { program := "ytbnpljcjjpokjaa", sum := "be4eea84a553f9570e4b7c8a21be093a42b231c2944f60947923e3963a34419d", func := "lockgate/lockgatelaw17.PlaceAlls", spec := "placeAlls", unfollowed := true, recurses := true, apart := false, narrowed := true }
def PlaceAllsUptoSaid : Prop := placeAllsUptoRow.holds Try.pinned (OpenSpec.upto placeAllsSpec)

/-- 'lockgatelaw17.PlaceKeeps', WHERE WHAT IT READS IS OF BULK AT MOST 1048576: true; the input reads as it did. -/
def placeKeepsUptoRow : OpenClaim := { program := "ytbnpljcjjpokjaa", sum := "be4eea84a553f9570e4b7c8a21be093a42b231c2944f60947923e3963a34419d", func := "lockgate/lockgatelaw17.PlaceKeeps", spec := "placeKeeps", unfollowed := true, recurses := true, apart := false, narrowed := true }
def PlaceKeepsUptoSaid : Prop := placeKeepsUptoRow.holds Try.pinned (OpenSpec.upto placeKeepsSpec)

/-- 'lockgatelaw17.PlaceLead', WHERE WHAT IT READS IS OF BULK AT MOST 1048576: true; the input reads as it did. -/
def placeLeadUptoRow : OpenClaim := { program := "ytbnpljcjjpokjaa", sum := "be4eea84a553f9570e4b7c8a21be093a42b231c2944f60947923e3963a34419d", func := "lockgate/lockgatelaw17.PlaceLead", spec := "placeLead", unfollowed := true, recurses := true, apart := false, narrowed := true }
def PlaceLeadUptoSaid : Prop := placeLeadUptoRow.holds Try.pinned (OpenSpec.upto placeLeadSpec)

/-- 'lockgatelaw17.PlaceMemory', WHERE WHAT IT READS IS OF BULK AT MOST 1048576: true; the input reads as it did. -/
def placeMemoryUptoRow : OpenClaim := { program := "ytbnpljcjjpokjaa", sum := "be4eea84a553f9570e4b7c8a21be093a42b231c2944f60947923e3963a34419d", func := "lockgate/lockgatelaw17.PlaceMemory", spec := "placeMemory", unfollowed := true, recurses := true, apart := false, narrowed := true }
def PlaceMemoryUptoSaid : Prop := placeMemoryUptoRow.holds Try.pinned (OpenSpec.upto placeMemorySpec)

end Rows
end Go.Proofs.Ytbnpljcjjpokjaa
