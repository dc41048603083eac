/-
  No cell of these rows narrows 'for every input' (looked for: loops, veiled, ifaces, maps, wideKeys, modest, calm, conditions, laid).
  DERIVED. THE GIVEN ROWS OF THIS SEAT. 3 by the template 'for every input the law returns true; each argument reads behind the call as it read before'; 0 by the template 'total and deterministic' (their statements: YtghklbflbodajaaTotals.lean).
  GIVEN WITH THE SEED: the statements are not yours to turn. If you find one false, say at which input.
  Laid BY PROGRAM, IN A SANDBOX (cutbox-rows.mjs): the forced cells as the released guide's own fill.sh prints them over the translation aa59471440913571… (all of the seat's roots in one cut). By AI agents, Wed Nov 11 2026. No macro, syntax, notation, axiom, sorry.
-/
import Derived.Test.YtghklbflbodajaaChecked
import GoSem.Claim
import GoSem.ClaimJoined
import GoSem.ClaimMapViews
import Derived.JoinedTies
import Derived.KernelRfl
namespace Go.Proofs.Ytghklbflbodajaa
/- THE CELL 'sum', in the pinned program and in every row, IS THE sha256 OF THE DUMP (.gsa) THAT YtghklbflbodajaaProg.lean LOADS. Nothing in Lean hashes anything: it is a label: what it is worth is what the hold of that sum in a sandbox is worth. -/
noncomputable def Try.pinned : Pinned := { name := "ytghklbflbodajaa", sum := "aa59471440913571a1e6da0650c338788fb568d12514d2e9ac5d363cec10662d", checked := Try.checked }
namespace Rows
def none {H : Type} : Left H := { results := [], args := [] }

/-- 'careenlaw22.BackupBytes': WHATEVER THE INPUT: true; the input reads as it did. -/
def backupBytesSpec : ChangeSpec := { name := "backupBytes", fn := fun _ => fun
  | [d1, d2, d3] => { results := [.lit (.bool true)], args := [d1, d2, d3] }
  | _ => none }
def backupBytesRow : OpenClaim := { program := "ytghklbflbodajaa", sum := "aa59471440913571a1e6da0650c338788fb568d12514d2e9ac5d363cec10662d", func := "careen/careenlaw22.BackupBytes", spec := "backupBytes", inPlace := ["internal/abi.NoEscape"], unfollowed := true, recurses := true, apart := false }
def BackupBytesSaid : Prop := backupBytesRow.holds Try.pinned (OpenSpec.ofChange backupBytesSpec)

/-- ITS FALSE NEIGHBOUR: 'it returns false'. Refute it at one input. -/
def backupBytesWrong : ChangeSpec := { name := "backupBytes", fn := fun _ => fun
  | [d1, d2, d3] => { results := [.lit (.bool false)], args := [d1, d2, d3] }
  | _ => none }
def BackupBytesWrongFalsely : Prop := backupBytesRow.holds Try.pinned (OpenSpec.ofChange backupBytesWrong)

/-- 'careenlaw22.BackupNil': WHATEVER THE INPUT: true; the input reads as it did. -/
def backupNilSpec : ChangeSpec := { name := "backupNil", fn := fun _ => fun
  | [d1, d2] => { results := [.lit (.bool true)], args := [d1, d2] }
  | _ => none }
def backupNilRow : OpenClaim := { program := "ytghklbflbodajaa", sum := "aa59471440913571a1e6da0650c338788fb568d12514d2e9ac5d363cec10662d", func := "careen/careenlaw22.BackupNil", spec := "backupNil", inPlace := ["internal/abi.NoEscape"], unfollowed := true, recurses := true, apart := false }
def BackupNilSaid : Prop := backupNilRow.holds Try.pinned (OpenSpec.ofChange backupNilSpec)

/-- ITS FALSE NEIGHBOUR: 'it returns false'. Refute it at one input. -/
def backupNilWrong : ChangeSpec := { name := "backupNil", fn := fun _ => fun
  | [d1, d2] => { results := [.lit (.bool false)], args := [d1, d2] }
  | _ => none }
def BackupNilWrongFalsely : Prop := backupNilRow.holds Try.pinned (OpenSpec.ofChange backupNilWrong)

/-- 'careenlaw22.BackupAgain': WHATEVER THE INPUT: true; the input reads as it did. -/
def backupAgainSpec : ChangeSpec := { name := "backupAgain", fn := fun _ => fun
  | [d1, d2, d3] => { results := [.lit (.bool true)], args := [d1, d2, d3] }
  | _ => none }
def backupAgainRow : OpenClaim := { program := "ytghklbflbodajaa", sum := "aa59471440913571a1e6da0650c338788fb568d12514d2e9ac5d363cec10662d", func := "careen/careenlaw22.BackupAgain", spec := "backupAgain", inPlace := ["internal/abi.NoEscape"], unfollowed := true, recurses := true, apart := false }
def BackupAgainSaid : Prop := backupAgainRow.holds Try.pinned (OpenSpec.ofChange backupAgainSpec)

/-- ITS FALSE NEIGHBOUR: 'it returns false'. Refute it at one input. -/
def backupAgainWrong : ChangeSpec := { name := "backupAgain", fn := fun _ => fun
  | [d1, d2, d3] => { results := [.lit (.bool false)], args := [d1, d2, d3] }
  | _ => none }
def BackupAgainWrongFalsely : Prop := backupAgainRow.holds Try.pinned (OpenSpec.ofChange backupAgainWrong)

/- THE SECOND FORM. 'bulk': how many values and letters a reading holds, each counted each time it is reached (what is shared counts as often as it is met; a slice's spare places count too). A statement '..UptoSaid' is the law's where the arguments, and the package variables that the reading takes, are together of bulk at most 1048576: NARROWER than '..Said'. Prove '..Said' where nothing that the law and all that it calls make is longer than what came in: it says more and counts as full. Else prove '..UptoSaid'. A law counts once. -/
mutual
def uptoBulk {H : Type} : DataW H → Nat
  | .lit (.string bytes) => bytes.length + 1
  | .lit _ => 1
  | .nil => 1
  | .ptr d => uptoBulk d + 1
  | .slice elems spare => uptoBulkAll elems + uptoBulkAll spare + 1
  | .agg parts => uptoBulkAll parts + 1
  | .iface _ d => uptoBulk d + 1
  | .map entries => uptoBulkEntries entries + 1
  | .held _ => 1
def uptoBulkAll {H : Type} : List (DataW H) → Nat
  | [] => 0
  | d :: r => uptoBulk d + uptoBulkAll r
def uptoBulkEntries {H : Type} : List (Lit × DataW H) → Nat
  | [] => 0
  | x :: r => uptoBulkEntry x + uptoBulkEntries r
def uptoBulkEntry {H : Type} : Lit × DataW H → Nat
  | (.string bytes, d) => bytes.length + uptoBulk d + 1
  | (_, d) => uptoBulk d + 1
 end
def uptoSmall : (H : Type) → List (DataW H) → Bool := fun _ ds => decide (uptoBulkAll ds ≤ 1048576)
def OpenSpec.upto (s : _root_.Go.ChangeSpec) : _root_.Go.OpenSpec := { _root_.Go.OpenSpec.ofChange s with cond := some uptoSmall }

/-- 'careenlaw22.BackupBytes', WHERE WHAT IT READS IS OF BULK AT MOST 1048576: true; the input reads as it did. -/
def backupBytesUptoRow : OpenClaim := { program := "ytghklbflbodajaa", sum := "aa59471440913571a1e6da0650c338788fb568d12514d2e9ac5d363cec10662d", func := "careen/careenlaw22.BackupBytes", spec := "backupBytes", inPlace := ["internal/abi.NoEscape"], unfollowed := true, recurses := true, apart := false, narrowed := true }
def BackupBytesUptoSaid : Prop := backupBytesUptoRow.holds Try.pinned (OpenSpec.upto backupBytesSpec)

/-- 'careenlaw22.BackupNil', WHERE WHAT IT READS IS OF BULK AT MOST 1048576: true; the input reads as it did. -/
def backupNilUptoRow : OpenClaim := { program := "ytghklbflbodajaa", sum := "aa59471440913571a1e6da0650c338788fb568d12514d2e9ac5d363cec10662d", func := "careen/careenlaw22.BackupNil", spec := "backupNil", inPlace := ["internal/abi.NoEscape"], unfollowed := true, recurses := true, apart := false, narrowed := true }
def BackupNilUptoSaid : Prop := backupNilUptoRow.holds Try.pinned (OpenSpec.upto backupNilSpec)

/-- 'careenlaw22.BackupAgain', WHERE WHAT IT READS IS OF BULK AT MOST 1048576: true; the input reads as it did. -/
def backupAgainUptoRow : OpenClaim := { program := "ytghklbflbodajaa", sum := "aa59471440913571a1e6da0650c338788fb568d12514d2e9ac5d363cec10662d", func := "careen/careenlaw22.BackupAgain", spec := "backupAgain", inPlace := ["internal/abi.NoEscape"], unfollowed := true, recurses := true, apart := false, narrowed := true }
def BackupAgainUptoSaid : Prop := backupAgainUptoRow.holds Try.pinned (OpenSpec.upto backupAgainSpec)

end Rows
end Go.Proofs.Ytghklbflbodajaa
