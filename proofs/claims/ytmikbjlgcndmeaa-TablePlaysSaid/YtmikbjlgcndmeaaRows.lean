/-
  No cell of these rows narrows 'for every input' (looked for: loops, veiled, ifaces, maps, wideKeys, modest, calm, conditions, laid).
  DERIVED. THE GIVEN ROWS OF THIS SEAT. 5 by the template 'for every input the law returns true; each argument reads behind the call as it read before'; 0 by the template 'total and deterministic' (their statements: YtmikbjlgcndmeaaTotals.lean).
  GIVEN WITH THE SEED: the statements are not yours to turn. If you find one false, say at which input.
  Laid BY PROGRAM, IN A SANDBOX (cutbox-rows.mjs): the forced cells as the released guide's own fill.sh prints them over the translation d99f8b8c8572f96e… (all of the seat's roots in one cut). By AI agents, Wed Nov 11 2026. No macro, syntax, notation, axiom, sorry.
-/
import Derived.Test.YtmikbjlgcndmeaaChecked
import GoSem.Claim
import GoSem.ClaimJoined
import GoSem.ClaimMapViews
import Derived.JoinedTies
import Derived.KernelRfl
namespace Go.Proofs.Ytmikbjlgcndmeaa
/- THE CELL 'sum', in the pinned program and in every row, IS THE sha256 OF THE DUMP (.gsa) THAT YtmikbjlgcndmeaaProg.lean LOADS. Nothing in Lean hashes anything: it is a label: what it is worth is what the hold of that sum in a sandbox is worth. -/
noncomputable def Try.pinned : Pinned := { name := "ytmikbjlgcndmeaa", sum := "d99f8b8c8572f96e31ac28d83389ad1da797737d209770e7a4a7a3bd0188d27a", checked := Try.checked }
namespace Rows
def none {H : Type} : Left H := { results := [], args := [] }

/-- 'careenlaw10.TableMarks': WHATEVER THE INPUT: true; the input reads as it did. -/
def tableMarksSpec : ChangeSpec := { name := "tableMarks", fn := fun _ => fun
  | [d1, d2] => { results := [.lit (.bool true)], args := [d1, d2] }
  | _ => none }
def tableMarksRow : OpenClaim := { program := "ytmikbjlgcndmeaa", sum := "d99f8b8c8572f96e31ac28d83389ad1da797737d209770e7a4a7a3bd0188d27a", func := "careen/careenlaw10.TableMarks", spec := "tableMarks", unfollowed := true, recurses := true, apart := false }
def TableMarksSaid : Prop := tableMarksRow.holds Try.pinned (OpenSpec.ofChange tableMarksSpec)

/-- ITS FALSE NEIGHBOUR: 'it returns false'. Refute it at one input. -/
def tableMarksWrong : ChangeSpec := { name := "tableMarks", fn := fun _ => fun
  | [d1, d2] => { results := [.lit (.bool false)], args := [d1, d2] }
  | _ => none }
def TableMarksWrongFalsely : Prop := tableMarksRow.holds Try.pinned (OpenSpec.ofChange tableMarksWrong)

/-- 'careenlaw10.TablePlays': WHATEVER THE INPUT: true; the input reads as it did. -/
def tablePlaysSpec : ChangeSpec := { name := "tablePlays", fn := fun _ => fun
  | [d] => { results := [.lit (.bool true)], args := [d] }
  | _ => none }
def tablePlaysRow : OpenClaim := { program := "ytmikbjlgcndmeaa", sum := "d99f8b8c8572f96e31ac28d83389ad1da797737d209770e7a4a7a3bd0188d27a", func := "careen/careenlaw10.TablePlays", spec := "tablePlays", unfollowed := true, recurses := true, apart := false }
def TablePlaysSaid : Prop := tablePlaysRow.holds Try.pinned (OpenSpec.ofChange tablePlaysSpec)

/-- ITS FALSE NEIGHBOUR: 'it returns false'. Refute it at one input. -/
def tablePlaysWrong : ChangeSpec := { name := "tablePlays", fn := fun _ => fun
  | [d] => { results := [.lit (.bool false)], args := [d] }
  | _ => none }
def TablePlaysWrongFalsely : Prop := tablePlaysRow.holds Try.pinned (OpenSpec.ofChange tablePlaysWrong)

/-- 'careenlaw10.TableNil': WHATEVER THE INPUT: true; the input reads as it did. -/
def tableNilSpec : ChangeSpec := { name := "tableNil", fn := fun _ => fun
  | [d1, d2] => { results := [.lit (.bool true)], args := [d1, d2] }
  | _ => none }
def tableNilRow : OpenClaim := { program := "ytmikbjlgcndmeaa", sum := "d99f8b8c8572f96e31ac28d83389ad1da797737d209770e7a4a7a3bd0188d27a", func := "careen/careenlaw10.TableNil", spec := "tableNil", unfollowed := true, recurses := true, apart := false }
def TableNilSaid : Prop := tableNilRow.holds Try.pinned (OpenSpec.ofChange tableNilSpec)

/-- ITS FALSE NEIGHBOUR: 'it returns false'. Refute it at one input. -/
def tableNilWrong : ChangeSpec := { name := "tableNil", fn := fun _ => fun
  | [d1, d2] => { results := [.lit (.bool false)], args := [d1, d2] }
  | _ => none }
def TableNilWrongFalsely : Prop := tableNilRow.holds Try.pinned (OpenSpec.ofChange tableNilWrong)

/-- 'careenlaw10.TableNeed': WHATEVER THE INPUT: true; the input reads as it did. -/
def tableNeedSpec : ChangeSpec := { name := "tableNeed", fn := fun _ => fun
  | [d] => { results := [.lit (.bool true)], args := [d] }
  | _ => none }
def tableNeedRow : OpenClaim := { program := "ytmikbjlgcndmeaa", sum := "d99f8b8c8572f96e31ac28d83389ad1da797737d209770e7a4a7a3bd0188d27a", func := "careen/careenlaw10.TableNeed", spec := "tableNeed", unfollowed := true, recurses := true, apart := false }
def TableNeedSaid : Prop := tableNeedRow.holds Try.pinned (OpenSpec.ofChange tableNeedSpec)

/-- ITS FALSE NEIGHBOUR: 'it returns false'. Refute it at one input. -/
def tableNeedWrong : ChangeSpec := { name := "tableNeed", fn := fun _ => fun
  | [d] => { results := [.lit (.bool false)], args := [d] }
  | _ => none }
def TableNeedWrongFalsely : Prop := tableNeedRow.holds Try.pinned (OpenSpec.ofChange tableNeedWrong)

/-- 'careenlaw10.TableRows': WHATEVER THE INPUT: true; the input reads as it did. -/
def tableRowsSpec : ChangeSpec := { name := "tableRows", fn := fun _ => fun
  | [d] => { results := [.lit (.bool true)], args := [d] }
  | _ => none }
def tableRowsRow : OpenClaim := { program := "ytmikbjlgcndmeaa", sum := "d99f8b8c8572f96e31ac28d83389ad1da797737d209770e7a4a7a3bd0188d27a", func := "careen/careenlaw10.TableRows", spec := "tableRows", unfollowed := true, recurses := true, apart := false }
def TableRowsSaid : Prop := tableRowsRow.holds Try.pinned (OpenSpec.ofChange tableRowsSpec)

/-- ITS FALSE NEIGHBOUR: 'it returns false'. Refute it at one input. -/
def tableRowsWrong : ChangeSpec := { name := "tableRows", fn := fun _ => fun
  | [d] => { results := [.lit (.bool false)], args := [d] }
  | _ => none }
def TableRowsWrongFalsely : Prop := tableRowsRow.holds Try.pinned (OpenSpec.ofChange tableRowsWrong)

/- THE SECOND FORM. 'bulk': how many values and letters a reading holds, each counted each time it is reached (what is shared counts as often as it is met; a slice's spare places count too). A statement '..UptoSaid' is the law's where the arguments, and the package variables that the reading takes, are together of bulk at most 1048576: NARROWER than '..Said'. Prove '..Said' where nothing that the law and all that it calls make is longer than what came in: it says more and counts as full. Else prove '..UptoSaid'. A law counts once. -/
mutual
def uptoBulk {H : Type} : DataW H → Nat
  | .lit (.string bytes) => bytes.length + 1
  | .lit _ => 1
  | .nil => 1
  | .ptr d => uptoBulk d + 1
  | .slice elems spare => uptoBulkAll elems + uptoBulkAll spare + 1
  | .agg parts => uptoBulkAll parts + 1
  | .iface _ d => uptoBulk d + 1
  | .map entries => uptoBulkEntries entries + 1
  | .held _ => 1
def uptoBulkAll {H : Type} : List (DataW H) → Nat
  | [] => 0
  | d :: r => uptoBulk d + uptoBulkAll r
def uptoBulkEntries {H : Type} : List (Lit × DataW H) → Nat
  | [] => 0
  | x :: r => uptoBulkEntry x + uptoBulkEntries r
def uptoBulkEntry {H : Type} : Lit × DataW H → Nat
  | (.string bytes, d) => bytes.length + uptoBulk d + 1
  | (_, d) => uptoBulk d + 1
 end
def uptoSmall : (H : Type) → List (DataW H) → Bool := fun _ ds => decide (uptoBulkAll ds ≤ 1048576)
def OpenSpec.upto (s : _root_.Go.ChangeSpec) : _root_.Go.OpenSpec := { _root_.Go.OpenSpec.ofChange s with cond := some uptoSmall }

/-- 'careenlaw10.TableMarks', WHERE WHAT IT READS IS OF BULK AT MOST 1048576: true; the input reads as it did. -/
def tableMarksUptoRow : OpenClaim := { program := "ytmikbjlgcndmeaa", sum := "d99f8b8c8572f96e31ac28d83389ad1da797737d209770e7a4a7a3bd0188d27a", func := "careen/careenlaw10.TableMarks", spec := "tableMarks", unfollowed := true, recurses := true, apart := false, narrowed := true }
def TableMarksUptoSaid : Prop := tableMarksUptoRow.holds Try.pinned (OpenSpec.upto tableMarksSpec)

/-- 'careenlaw10.TablePlays', WHERE WHAT IT READS IS OF BULK AT MOST 1048576: true; the input reads as it did. -/
def tablePlaysUptoRow : OpenClaim := { program := "ytmikbjlgcndmeaa", sum := "d99f8b8c8572f96e31ac28d83389ad1da797737d209770e7a4a7a3bd0188d27a", func := "careen/careenlaw10.TablePlays", spec := "tablePlays", unfollowed := true, recurses := true, apart := false, narrowed := true }
def TablePlaysUptoSaid : Prop := tablePlaysUptoRow.holds Try.pinned (OpenSpec.upto tablePlaysSpec)

/-- 'careenlaw10.TableNil', WHERE WHAT IT READS IS OF BULK AT MOST 1048576: true; the input reads as it did. -/
def tableNilUptoRow : OpenClaim := { program := "ytmikbjlgcndmeaa", sum := "d99f8b8c8572f96e31ac28d83389ad1da797737d209770e7a4a7a3bd0188d27a", func := "careen/careenlaw10.TableNil", spec := "tableNil", unfollowed := true, recurses := true, apart := false, narrowed := true }
def TableNilUptoSaid : Prop := tableNilUptoRow.holds Try.pinned (OpenSpec.upto tableNilSpec)

/-- 'careenlaw10.TableNeed', WHERE WHAT IT READS IS OF BULK AT MOST 1048576: true; the input reads as it did. -/
def tableNeedUptoRow : OpenClaim := { program := "ytmikbjlgcndmeaa", sum := "d99f8b8c8572f96e31ac28d83389ad1da797737d209770e7a4a7a3bd0188d27a", func := "careen/careenlaw10.TableNeed", spec := "tableNeed", unfollowed := true, recurses := true, apart := false, narrowed := true }
def TableNeedUptoSaid : Prop := tableNeedUptoRow.holds Try.pinned (OpenSpec.upto tableNeedSpec)

/-- 'careenlaw10.TableRows', WHERE WHAT IT READS IS OF BULK AT MOST 1048576: true; the input reads as it did. -/
def tableRowsUptoRow : OpenClaim := { program := "ytmikbjlgcndmeaa", sum := "d99f8b8c8572f96e31ac28d83389ad1da797737d209770e7a4a7a3bd0188d27a", func := "careen/careenlaw10.TableRows", spec := "tableRows", unfollowed := true, recurses := true, apart := false, narrowed := true }
def TableRowsUptoSaid : Prop := tableRowsUptoRow.holds Try.pinned (OpenSpec.upto tableRowsSpec)

end Rows
end Go.Proofs.Ytmikbjlgcndmeaa
