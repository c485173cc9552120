/-
  No cell of these rows narrows 'for every input' (looked for: loops, veiled, ifaces, maps, wideKeys, modest, calm, conditions, laid).
  DERIVED. THE GIVEN ROWS OF THIS SEAT. 8 by the template 'for every input the law returns true; each argument reads behind the call as it read before'; 0 by the template 'total and deterministic' (their statements: YtjipjfionelpkaaTotals.lean).
  GIVEN WITH THE SEED: the statements are not yours to turn. If you find one false, say at which input.
  Laid BY PROGRAM, IN A SANDBOX (cutbox-rows.mjs): the forced cells as the released guide's own fill.sh prints them over the translation 21f68a5ff9e3476d… (all of the seat's roots in one cut). By AI agents, Wed Nov 11 2026. No macro, syntax, notation, axiom, sorry.
-/
import Derived.Test.YtjipjfionelpkaaChecked
import GoSem.Claim
import GoSem.ClaimJoined
import GoSem.ClaimMapViews
import Derived.JoinedTies
import Derived.KernelRfl
namespace Go.Proofs.Ytjipjfionelpkaa
/- THE CELL 'sum', in the pinned program and in every row, IS THE sha256 OF THE DUMP (.gsa) THAT YtjipjfionelpkaaProg.lean LOADS. Nothing in Lean hashes anything: it is a label: what it is worth is what the hold of that sum in a sandbox is worth. -/
noncomputable def Try.pinned : Pinned := { name := "ytjipjfionelpkaa", sum := "21f68a5ff9e3476dfaac3c02651599c6fbbd456c3c7c20d099e984fe4fbe0abc", checked := Try.checked }
namespace Rows
def none {H : Type} : Left H := { results := [], args := [] }

/-- 'lockgatelaw07.DiskMemory': WHATEVER THE INPUT: true; the input reads as it did. -/
def diskMemorySpec : ChangeSpec := { name := "diskMemory", fn := fun _ => fun
  | [d] => { results := [.lit (.bool true)], args := [d] }
  | _ => none }
def diskMemoryRow : OpenClaim := { program := "ytjipjfionelpkaa", sum := "21f68a5ff9e3476dfaac3c02651599c6fbbd456c3c7c20d099e984fe4fbe0abc", func := "lockgate/lockgatelaw07.DiskMemory", spec := "diskMemory", apart := false }
def DiskMemorySaid : Prop := diskMemoryRow.holds Try.pinned (OpenSpec.ofChange diskMemorySpec)

/-- ITS FALSE NEIGHBOUR: 'it returns false'. Refute it at one input. -/
def diskMemoryWrong : ChangeSpec := { name := "diskMemory", fn := fun _ => fun
  | [d] => { results := [.lit (.bool false)], args := [d] }
  | _ => none }
def DiskMemoryWrongFalsely : Prop := diskMemoryRow.holds Try.pinned (OpenSpec.ofChange diskMemoryWrong)

/-- 'lockgatelaw07.DiskActs': WHATEVER THE INPUT: true; the input reads as it did. -/
def diskActsSpec : ChangeSpec := { name := "diskActs", fn := fun _ => fun
  | [d] => { results := [.lit (.bool true)], args := [d] }
  | _ => none }
def diskActsRow : OpenClaim := { program := "ytjipjfionelpkaa", sum := "21f68a5ff9e3476dfaac3c02651599c6fbbd456c3c7c20d099e984fe4fbe0abc", func := "lockgate/lockgatelaw07.DiskActs", spec := "diskActs", apart := false }
def DiskActsSaid : Prop := diskActsRow.holds Try.pinned (OpenSpec.ofChange diskActsSpec)

/-- ITS FALSE NEIGHBOUR: 'it returns false'. Refute it at one input. -/
def diskActsWrong : ChangeSpec := { name := "diskActs", fn := fun _ => fun
  | [d] => { results := [.lit (.bool false)], args := [d] }
  | _ => none }
def DiskActsWrongFalsely : Prop := diskActsRow.holds Try.pinned (OpenSpec.ofChange diskActsWrong)

/-- 'lockgatelaw07.DiskKeeps': WHATEVER THE INPUT: true; the input reads as it did. -/
def diskKeepsSpec : ChangeSpec := { name := "diskKeeps", fn := fun _ => fun
  | [d1, d2, d3, d4] => { results := [.lit (.bool true)], args := [d1, d2, d3, d4] }
  | _ => none }
def diskKeepsRow : OpenClaim := { program := "ytjipjfionelpkaa", sum := "21f68a5ff9e3476dfaac3c02651599c6fbbd456c3c7c20d099e984fe4fbe0abc", func := "lockgate/lockgatelaw07.DiskKeeps", spec := "diskKeeps", apart := false }
def DiskKeepsSaid : Prop := diskKeepsRow.holds Try.pinned (OpenSpec.ofChange diskKeepsSpec)

/-- ITS FALSE NEIGHBOUR: 'it returns false'. Refute it at one input. -/
def diskKeepsWrong : ChangeSpec := { name := "diskKeeps", fn := fun _ => fun
  | [d1, d2, d3, d4] => { results := [.lit (.bool false)], args := [d1, d2, d3, d4] }
  | _ => none }
def DiskKeepsWrongFalsely : Prop := diskKeepsRow.holds Try.pinned (OpenSpec.ofChange diskKeepsWrong)

/-- 'lockgatelaw07.DiskClones': WHATEVER THE INPUT: true; the input reads as it did. -/
def diskClonesSpec : ChangeSpec := { name := "diskClones", fn := fun _ => fun
  | [d1, d2] => { results := [.lit (.bool true)], args := [d1, d2] }
  | _ => none }
def diskClonesRow : OpenClaim := { program := "ytjipjfionelpkaa", sum := "21f68a5ff9e3476dfaac3c02651599c6fbbd456c3c7c20d099e984fe4fbe0abc", func := "lockgate/lockgatelaw07.DiskClones", spec := "diskClones", apart := false }
def DiskClonesSaid : Prop := diskClonesRow.holds Try.pinned (OpenSpec.ofChange diskClonesSpec)

/-- ITS FALSE NEIGHBOUR: 'it returns false'. Refute it at one input. -/
def diskClonesWrong : ChangeSpec := { name := "diskClones", fn := fun _ => fun
  | [d1, d2] => { results := [.lit (.bool false)], args := [d1, d2] }
  | _ => none }
def DiskClonesWrongFalsely : Prop := diskClonesRow.holds Try.pinned (OpenSpec.ofChange diskClonesWrong)

/-- 'lockgatelaw07.DiskSyncs': WHATEVER THE INPUT: true; the input reads as it did. -/
def diskSyncsSpec : ChangeSpec := { name := "diskSyncs", fn := fun _ => fun
  | [d1, d2, d3] => { results := [.lit (.bool true)], args := [d1, d2, d3] }
  | _ => none }
def diskSyncsRow : OpenClaim := { program := "ytjipjfionelpkaa", sum := "21f68a5ff9e3476dfaac3c02651599c6fbbd456c3c7c20d099e984fe4fbe0abc", func := "lockgate/lockgatelaw07.DiskSyncs", spec := "diskSyncs", apart := false }
def DiskSyncsSaid : Prop := diskSyncsRow.holds Try.pinned (OpenSpec.ofChange diskSyncsSpec)

/-- ITS FALSE NEIGHBOUR: 'it returns false'. Refute it at one input. -/
def diskSyncsWrong : ChangeSpec := { name := "diskSyncs", fn := fun _ => fun
  | [d1, d2, d3] => { results := [.lit (.bool false)], args := [d1, d2, d3] }
  | _ => none }
def DiskSyncsWrongFalsely : Prop := diskSyncsRow.holds Try.pinned (OpenSpec.ofChange diskSyncsWrong)

/-- 'lockgatelaw08.WalActs': WHATEVER THE INPUT: true; the input reads as it did. -/
def walActsSpec : ChangeSpec := { name := "walActs", fn := fun _ => fun
  | [d] => { results := [.lit (.bool true)], args := [d] }
  | _ => none }
def walActsRow : OpenClaim := { program := "ytjipjfionelpkaa", sum := "21f68a5ff9e3476dfaac3c02651599c6fbbd456c3c7c20d099e984fe4fbe0abc", func := "lockgate/lockgatelaw08.WalActs", spec := "walActs", unfollowed := true, recurses := true, apart := false }
def WalActsSaid : Prop := walActsRow.holds Try.pinned (OpenSpec.ofChange walActsSpec)

/-- ITS FALSE NEIGHBOUR: 'it returns false'. Refute it at one input. -/
def walActsWrong : ChangeSpec := { name := "walActs", fn := fun _ => fun
  | [d] => { results := [.lit (.bool false)], args := [d] }
  | _ => none }
def WalActsWrongFalsely : Prop := walActsRow.holds Try.pinned (OpenSpec.ofChange walActsWrong)

/-- 'lockgatelaw08.WalMemory': WHATEVER THE INPUT: true; the input reads as it did. -/
def walMemorySpec : ChangeSpec := { name := "walMemory", fn := fun _ => fun
  | [d1, d2] => { results := [.lit (.bool true)], args := [d1, d2] }
  | _ => none }
def walMemoryRow : OpenClaim := { program := "ytjipjfionelpkaa", sum := "21f68a5ff9e3476dfaac3c02651599c6fbbd456c3c7c20d099e984fe4fbe0abc", func := "lockgate/lockgatelaw08.WalMemory", spec := "walMemory", unfollowed := true, recurses := true, apart := false }
def WalMemorySaid : Prop := walMemoryRow.holds Try.pinned (OpenSpec.ofChange walMemorySpec)

/-- ITS FALSE NEIGHBOUR: 'it returns false'. Refute it at one input. -/
def walMemoryWrong : ChangeSpec := { name := "walMemory", fn := fun _ => fun
  | [d1, d2] => { results := [.lit (.bool false)], args := [d1, d2] }
  | _ => none }
def WalMemoryWrongFalsely : Prop := walMemoryRow.holds Try.pinned (OpenSpec.ofChange walMemoryWrong)

/-- 'lockgatelaw08.WalSaves': WHATEVER THE INPUT: true; the input reads as it did. -/
def walSavesSpec : ChangeSpec := { name := "walSaves", fn := fun _ => fun
  | [d1, d2] => { results := [.lit (.bool true)], args := [d1, d2] }
  | _ => none }
def walSavesRow : OpenClaim := { program := "ytjipjfionelpkaa", sum := "21f68a5ff9e3476dfaac3c02651599c6fbbd456c3c7c20d099e984fe4fbe0abc", func := "lockgate/lockgatelaw08.WalSaves", spec := "walSaves", unfollowed := true, recurses := true, apart := false }
def WalSavesSaid : Prop := walSavesRow.holds Try.pinned (OpenSpec.ofChange walSavesSpec)

/-- ITS FALSE NEIGHBOUR: 'it returns false'. Refute it at one input. -/
def walSavesWrong : ChangeSpec := { name := "walSaves", fn := fun _ => fun
  | [d1, d2] => { results := [.lit (.bool false)], args := [d1, d2] }
  | _ => none }
def WalSavesWrongFalsely : Prop := walSavesRow.holds Try.pinned (OpenSpec.ofChange walSavesWrong)

/- THE SECOND FORM. 'bulk': how many values and letters a reading holds, each counted each time it is reached (what is shared counts as often as it is met; a slice's spare places count too). A statement '..UptoSaid' is the law's where the arguments, and the package variables that the reading takes, are together of bulk at most 1048576: NARROWER than '..Said'. Prove '..Said' where nothing that the law and all that it calls make is longer than what came in: it says more and counts as full. Else prove '..UptoSaid'. A law counts once. -/
mutual
def uptoBulk {H : Type} : DataW H → Nat
  | .lit (.string bytes) => bytes.length + 1
  | .lit _ => 1
  | .nil => 1
  | .ptr d => uptoBulk d + 1
  | .slice elems spare => uptoBulkAll elems + uptoBulkAll spare + 1
  | .agg parts => uptoBulkAll parts + 1
  | .iface _ d => uptoBulk d + 1
  | .map entries => uptoBulkEntries entries + 1
  | .held _ => 1
def uptoBulkAll {H : Type} : List (DataW H) → Nat
  | [] => 0
  | d :: r => uptoBulk d + uptoBulkAll r
def uptoBulkEntries {H : Type} : List (Lit × DataW H) → Nat
  | [] => 0
  | x :: r => uptoBulkEntry x + uptoBulkEntries r
def uptoBulkEntry {H : Type} : Lit × DataW H → Nat
  | (.string bytes, d) => bytes.length + uptoBulk d + 1
  | (_, d) => uptoBulk d + 1
 end
def uptoSmall : (H : Type) → List (DataW H) → Bool := fun _ ds => decide (uptoBulkAll ds ≤ 1048576)
def OpenSpec.upto (s : _root_.Go.ChangeSpec) : _root_.Go.OpenSpec := { _root_.Go.OpenSpec.ofChange s with cond := some uptoSmall }

/-- 'lockgatelaw07.DiskMemory', WHERE WHAT IT READS IS OF BULK AT MOST 1048576: true; the input reads as it did. -/
def diskMemoryUptoRow : OpenClaim := { program := "ytjipjfionelpkaa", sum := "21f68a5ff9e3476dfaac3c02651599c6fbbd456c3c7c20d099e984fe4fbe0abc", func := "lockgate/lockgatelaw07.DiskMemory", spec := "diskMemory", apart := false, narrowed := true }
def DiskMemoryUptoSaid : Prop := diskMemoryUptoRow.holds Try.pinned (OpenSpec.upto diskMemorySpec)

/-- 'lockgatelaw07.DiskActs', WHERE WHAT IT READS IS OF BULK AT MOST 1048576: true; the input reads as it did. -/
def diskActsUptoRow : OpenClaim := { program := "ytjipjfionelpkaa", sum := "21f68a5ff9e3476dfaac3c02651599c6fbbd456c3c7c20d099e984fe4fbe0abc", func := "lockgate/lockgatelaw07.DiskActs", spec := "diskActs", apart := false, narrowed := true }
def DiskActsUptoSaid : Prop := diskActsUptoRow.holds Try.pinned (OpenSpec.upto diskActsSpec)

/-- 'lockgatelaw07.DiskKeeps', WHERE WHAT IT READS IS OF BULK AT MOST 1048576: true; the input reads as it did. -/
def diskKeepsUptoRow : OpenClaim := { program := "ytjipjfionelpkaa", sum := "21f68a5ff9e3476dfaac3c02651599c6fbbd456c3c7c20d099e984fe4fbe0abc", func := "lockgate/lockgatelaw07.DiskKeeps", spec := "diskKeeps", apart := false, narrowed := true }
def DiskKeepsUptoSaid : Prop := diskKeepsUptoRow.holds Try.pinned (OpenSpec.upto diskKeepsSpec)

/-- 'lockgatelaw07.DiskClones', WHERE WHAT IT READS IS OF BULK AT MOST 1048576: true; the input reads as it did. -/
def diskClonesUptoRow : OpenClaim := { program := "ytjipjfionelpkaa", sum := "21f68a5ff9e3476dfaac3c02651599c6fbbd456c3c7c20d099e984fe4fbe0abc", func := "lockgate/lockgatelaw07.DiskClones", spec := "diskClones", apart := false, narrowed := true }
def DiskClonesUptoSaid : Prop := diskClonesUptoRow.holds Try.pinned (OpenSpec.upto diskClonesSpec)

/-- 'lockgatelaw07.DiskSyncs', WHERE WHAT IT READS IS OF BULK AT MOST 1048576: true; the input reads as it did. -/
def diskSyncsUptoRow : OpenClaim := { program := "ytjipjfionelpkaa", sum := "21f68a5ff9e3476dfaac3c02651599c6fbbd456c3c7c20d099e984fe4fbe0abc", func := "lockgate/lockgatelaw07.DiskSyncs", spec := "diskSyncs", apart := false, narrowed := true }
def DiskSyncsUptoSaid : Prop := diskSyncsUptoRow.holds Try.pinned (OpenSpec.upto diskSyncsSpec)

/-- 'lockgatelaw08.WalActs', WHERE WHAT IT READS IS OF BULK AT MOST 1048576: true; the input reads as it did. -/
def walActsUptoRow : OpenClaim := { program := "ytjipjfionelpkaa", sum := "21f68a5ff9e3476dfaac3c02651599c6fbbd456c3c7c20d099e984fe4fbe0abc", func := "lockgate/lockgatelaw08.WalActs", spec := "walActs", unfollowed := true, recurses := true, apart := false, narrowed := true }
def WalActsUptoSaid : Prop := walActsUptoRow.holds Try.pinned (OpenSpec.upto walActsSpec)

/-- 'lockgatelaw08.WalMemory', WHERE WHAT IT READS IS OF BULK AT MOST 1048576: true; the input reads as it did. -/
def walMemoryUptoRow : OpenClaim := { program := "ytjipjfionelpkaa", sum := "21f68a5ff9e3476dfaac3c02651599c6fbbd456c3c7c20d099e984fe4fbe0abc", func := "lockgate/lockgatelaw08.WalMemory", spec := "walMemory", unfollowed := true, recurses := true, apart := false, narrowed := true }
def WalMemoryUptoSaid : Prop := walMemoryUptoRow.holds Try.pinned (OpenSpec.upto walMemorySpec)

/-- 'lockgatelaw08.WalSaves', WHERE WHAT IT READS IS OF BULK AT MOST 1048576: true; the input reads as it did. -/
def walSavesUptoRow : OpenClaim := { program := "ytjipjfionelpkaa", sum := "21f68a5ff9e3476dfaac3c02651599c6fbbd456c3c7c20d099e984fe4fbe0abc", func := "lockgate/lockgatelaw08.WalSaves", spec := "walSaves", unfollowed := true, recurses := true, apart := false, narrowed := true }
def WalSavesUptoSaid : Prop := walSavesUptoRow.holds Try.pinned (OpenSpec.upto walSavesSpec)

end Rows
end Go.Proofs.Ytjipjfionelpkaa
