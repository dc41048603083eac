/-
  No cell of these rows narrows 'for every input' (looked for: loops, veiled, ifaces, maps, wideKeys, modest, calm, conditions, laid).
  DERIVED. THE GIVEN ROWS OF THIS SEAT. 4 by the template 'for every input the law returns true; each argument reads behind the call as it read before'; 0 by the template 'total and deterministic' (their statements: YtekjchphlphecaaTotals.lean).
  GIVEN WITH THE SEED: the statements are not yours to turn. If you find one false, say at which input.
  Laid BY PROGRAM, IN A SANDBOX (cutbox-rows.mjs): the forced cells as the released guide's own fill.sh prints them over the translation 326036896c86fe27… (all of the seat's roots in one cut). By AI agents, Wed Nov 11 2026. No macro, syntax, notation, axiom, sorry.
-/
import Derived.Test.YtekjchphlphecaaChecked
import GoSem.Claim
import GoSem.ClaimJoined
import GoSem.ClaimMapViews
import Derived.JoinedTies
import Derived.KernelRfl
namespace Go.Proofs.Ytekjchphlphecaa
/- THE CELL 'sum', in the pinned program and in every row, IS THE sha256 OF THE DUMP (.gsa) THAT YtekjchphlphecaaProg.lean LOADS. Nothing in Lean hashes anything: it is a label: what it is worth is what the hold of that sum in a sandbox is worth. -/
noncomputable def Try.pinned : Pinned := { name := "ytekjchphlphecaa", sum := "326036896c86fe27c975314ce3a1127a330577d6b8955afcb81da1cf9572f9fd", checked := Try.checked }
namespace Rows
def none {H : Type} : Left H := { results := [], args := [] }

/-- 'careenlaw23.StandbyFeeds': WHATEVER THE INPUT: true; the input reads as it did. -/
def standbyFeedsSpec : ChangeSpec := { name := "standbyFeeds", fn := fun _ => fun
  | [d1, d2, d3] => { results := [.lit (.bool true)], args := [d1, d2, d3] }
  | _ => none }
def standbyFeedsRow : OpenClaim := { program := "ytekjchphlphecaa", sum := "326036896c86fe27c975314ce3a1127a330577d6b8955afcb81da1cf9572f9fd", func := "careen/careenlaw23.StandbyFeeds", spec := "standbyFeeds", unfollowed := true, recurses := true, apart := false }
def StandbyFeedsSaid : Prop := standbyFeedsRow.holds Try.pinned (OpenSpec.ofChange standbyFeedsSpec)

/-- ITS FALSE NEIGHBOUR: 'it returns false'. Refute it at one input. -/
def standbyFeedsWrong : ChangeSpec := { name := "standbyFeeds", fn := fun _ => fun
  | [d1, d2, d3] => { results := [.lit (.bool false)], args := [d1, d2, d3] }
  | _ => none }
def StandbyFeedsWrongFalsely : Prop := standbyFeedsRow.holds Try.pinned (OpenSpec.ofChange standbyFeedsWrong)

/-- 'careenlaw23.StandbyPieces': WHATEVER THE INPUT: true; the input reads as it did. -/
def standbyPiecesSpec : ChangeSpec := { name := "standbyPieces", fn := fun _ => fun
  | [d1, d2, d3] => { results := [.lit (.bool true)], args := [d1, d2, d3] }
  | _ => none }
def standbyPiecesRow : OpenClaim := { program := "ytekjchphlphecaa", sum := "326036896c86fe27c975314ce3a1127a330577d6b8955afcb81da1cf9572f9fd", func := "careen/careenlaw23.StandbyPieces", spec := "standbyPieces", unfollowed := true, recurses := true, apart := false }
def StandbyPiecesSaid : Prop := standbyPiecesRow.holds Try.pinned (OpenSpec.ofChange standbyPiecesSpec)

/-- ITS FALSE NEIGHBOUR: 'it returns false'. Refute it at one input. -/
def standbyPiecesWrong : ChangeSpec := { name := "standbyPieces", fn := fun _ => fun
  | [d1, d2, d3] => { results := [.lit (.bool false)], args := [d1, d2, d3] }
  | _ => none }
def StandbyPiecesWrongFalsely : Prop := standbyPiecesRow.holds Try.pinned (OpenSpec.ofChange standbyPiecesWrong)

/-- 'careenlaw23.StandbyNil': WHATEVER THE INPUT: true; the input reads as it did. -/
def standbyNilSpec : ChangeSpec := { name := "standbyNil", fn := fun _ => fun
  | [d] => { results := [.lit (.bool true)], args := [d] }
  | _ => none }
def standbyNilRow : OpenClaim := { program := "ytekjchphlphecaa", sum := "326036896c86fe27c975314ce3a1127a330577d6b8955afcb81da1cf9572f9fd", func := "careen/careenlaw23.StandbyNil", spec := "standbyNil", unfollowed := true, recurses := true, apart := false }
def StandbyNilSaid : Prop := standbyNilRow.holds Try.pinned (OpenSpec.ofChange standbyNilSpec)

/-- ITS FALSE NEIGHBOUR: 'it returns false'. Refute it at one input. -/
def standbyNilWrong : ChangeSpec := { name := "standbyNil", fn := fun _ => fun
  | [d] => { results := [.lit (.bool false)], args := [d] }
  | _ => none }
def StandbyNilWrongFalsely : Prop := standbyNilRow.holds Try.pinned (OpenSpec.ofChange standbyNilWrong)

/-- 'careenlaw23.StandbyLags': WHATEVER THE INPUT: true; the input reads as it did. -/
def standbyLagsSpec : ChangeSpec := { name := "standbyLags", fn := fun _ => fun
  | [d1, d2, d3] => { results := [.lit (.bool true)], args := [d1, d2, d3] }
  | _ => none }
def standbyLagsRow : OpenClaim := { program := "ytekjchphlphecaa", sum := "326036896c86fe27c975314ce3a1127a330577d6b8955afcb81da1cf9572f9fd", func := "careen/careenlaw23.StandbyLags", spec := "standbyLags", unfollowed := true, recurses := true, apart := false }
def StandbyLagsSaid : Prop := standbyLagsRow.holds Try.pinned (OpenSpec.ofChange standbyLagsSpec)

/-- ITS FALSE NEIGHBOUR: 'it returns false'. Refute it at one input. -/
def standbyLagsWrong : ChangeSpec := { name := "standbyLags", fn := fun _ => fun
  | [d1, d2, d3] => { results := [.lit (.bool false)], args := [d1, d2, d3] }
  | _ => none }
def StandbyLagsWrongFalsely : Prop := standbyLagsRow.holds Try.pinned (OpenSpec.ofChange standbyLagsWrong)

/- THE SECOND FORM. 'bulk': how many values and letters a reading holds, each counted each time it is reached (what is shared counts as often as it is met; a slice's spare places count too). A statement '..UptoSaid' is the law's where the arguments, and the package variables that the reading takes, are together of bulk at most 1048576: NARROWER than '..Said'. Prove '..Said' where nothing that the law and all that it calls make is longer than what came in: it says more and counts as full. Else prove '..UptoSaid'. A law counts once. -/
mutual
def uptoBulk {H : Type} : DataW H → Nat
  | .lit (.string bytes) => bytes.length + 1
  | .lit _ => 1
  | .nil => 1
  | .ptr d => uptoBulk d + 1
  | .slice elems spare => uptoBulkAll elems + uptoBulkAll spare + 1
  | .agg parts => uptoBulkAll parts + 1
  | .iface _ d => uptoBulk d + 1
  | .map entries => uptoBulkEntries entries + 1
  | .held _ => 1
def uptoBulkAll {H : Type} : List (DataW H) → Nat
  | [] => 0
  | d :: r => uptoBulk d + uptoBulkAll r
def uptoBulkEntries {H : Type} : List (Lit × DataW H) → Nat
  | [] => 0
  | x :: r => uptoBulkEntry x + uptoBulkEntries r
def uptoBulkEntry {H : Type} : Lit × DataW H → Nat
  | (.string bytes, d) => bytes.length + uptoBulk d + 1
  | (_, d) => uptoBulk d + 1
 end
def uptoSmall : (H : Type) → List (DataW H) → Bool := fun _ ds => decide (uptoBulkAll ds ≤ 1048576)
def OpenSpec.upto (s : _root_.Go.ChangeSpec) : _root_.Go.OpenSpec := { _root_.Go.OpenSpec.ofChange s with cond := some uptoSmall }

/-- 'careenlaw23.StandbyFeeds', WHERE WHAT IT READS IS OF BULK AT MOST 1048576: true; the input reads as it did. -/
def standbyFeedsUptoRow : OpenClaim := { program := "ytekjchphlphecaa", sum := "326036896c86fe27c975314ce3a1127a330577d6b8955afcb81da1cf9572f9fd", func := "careen/careenlaw23.StandbyFeeds", spec := "standbyFeeds", unfollowed := true, recurses := true, apart := false, narrowed := true }
def StandbyFeedsUptoSaid : Prop := standbyFeedsUptoRow.holds Try.pinned (OpenSpec.upto standbyFeedsSpec)

/-- 'careenlaw23.StandbyPieces', WHERE WHAT IT READS IS OF BULK AT MOST 1048576: true; the input reads as it did. -/
def standbyPiecesUptoRow : OpenClaim := { program := "ytekjchphlphecaa", sum := "326036896c86fe27c975314ce3a1127a330577d6b8955afcb81da1cf9572f9fd", func := "careen/careenlaw23.StandbyPieces", spec := "standbyPieces", unfollowed := true, recurses := true, apart := false, narrowed := true }
def StandbyPiecesUptoSaid : Prop := standbyPiecesUptoRow.holds Try.pinned (OpenSpec.upto standbyPiecesSpec)

/-- 'careenlaw23.StandbyNil', WHERE WHAT IT READS IS OF BULK AT MOST 1048576: true; the input reads as it did. -/
def standbyNilUptoRow : OpenClaim := { program := "ytekjchphlphecaa", sum := "326036896c86fe27c975314ce3a1127a330577d6b8955afcb81da1cf9572f9fd", func := "careen/careenlaw23.StandbyNil", spec := "standbyNil", unfollowed := true, recurses := true, apart := false, narrowed := true }
def StandbyNilUptoSaid : Prop := standbyNilUptoRow.holds Try.pinned (OpenSpec.upto standbyNilSpec)

/-- 'careenlaw23.StandbyLags', WHERE WHAT IT READS IS OF BULK AT MOST 1048576: true; the input reads as it did. -/
def standbyLagsUptoRow : OpenClaim := { program := "ytekjchphlphecaa", sum := "326036896c86fe27c975314ce3a1127a330577d6b8955afcb81da1cf9572f9fd", func := "careen/careenlaw23.StandbyLags", spec := "standbyLags", unfollowed := true, recurses := true, apart := false, narrowed := true }
def StandbyLagsUptoSaid : Prop := standbyLagsUptoRow.holds Try.pinned (OpenSpec.upto standbyLagsSpec)

end Rows
end Go.Proofs.Ytekjchphlphecaa
