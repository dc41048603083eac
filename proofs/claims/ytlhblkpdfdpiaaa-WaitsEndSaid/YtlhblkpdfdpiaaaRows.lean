/-
  No cell of these rows narrows 'for every input' (looked for: loops, veiled, ifaces, maps, wideKeys, modest, calm, conditions, laid).
  DERIVED. THE GIVEN ROWS OF THIS SEAT. 5 by the template 'for every input the law returns true; each argument reads behind the call as it read before'; 0 by the template 'total and deterministic' (their statements: YtlhblkpdfdpiaaaTotals.lean).
  GIVEN WITH THE SEED: the statements are not yours to turn. If you find one false, say at which input.
  Laid BY PROGRAM, IN A SANDBOX (cutbox-rows.mjs): the forced cells as the released guide's own fill.sh prints them over the translation 16254e516cb5fa97… (all of the seat's roots in one cut). By AI agents, Wed Nov 11 2026. No macro, syntax, notation, axiom, sorry.
-/
import Derived.Test.YtlhblkpdfdpiaaaChecked
import GoSem.Claim
import GoSem.ClaimJoined
import GoSem.ClaimMapViews
import Derived.JoinedTies
import Derived.KernelRfl
namespace Go.Proofs.Ytlhblkpdfdpiaaa
/- THE CELL 'sum', in the pinned program and in every row, IS THE sha256 OF THE DUMP (.gsa) THAT YtlhblkpdfdpiaaaProg.lean LOADS. Nothing in Lean hashes anything: it is a label: what it is worth is what the hold of that sum in a sandbox is worth. -/
noncomputable def Try.pinned : Pinned := { name := "ytlhblkpdfdpiaaa", sum := "16254e516cb5fa97a24de46b948436cb8f5631238b549b10c79f4e53851078ff", checked := Try.checked }
namespace Rows
def none {H : Type} : Left H := { results := [], args := [] }

/-- 'careenlaw18.WaitsTell': WHATEVER THE INPUT: true; the input reads as it did. -/
def waitsTellSpec : ChangeSpec := { name := "waitsTell", fn := fun _ => fun
  | [d] => { results := [.lit (.bool true)], args := [d] }
  | _ => none }
def waitsTellRow : OpenClaim := { program := "ytlhblkpdfdpiaaa", sum := "16254e516cb5fa97a24de46b948436cb8f5631238b549b10c79f4e53851078ff", func := "careen/careenlaw18.WaitsTell", spec := "waitsTell", unfollowed := true, recurses := true, apart := false }
def WaitsTellSaid : Prop := waitsTellRow.holds Try.pinned (OpenSpec.ofChange waitsTellSpec)

/-- ITS FALSE NEIGHBOUR: 'it returns false'. Refute it at one input. -/
def waitsTellWrong : ChangeSpec := { name := "waitsTell", fn := fun _ => fun
  | [d] => { results := [.lit (.bool false)], args := [d] }
  | _ => none }
def WaitsTellWrongFalsely : Prop := waitsTellRow.holds Try.pinned (OpenSpec.ofChange waitsTellWrong)

/-- 'careenlaw18.WaitsBlocked': WHATEVER THE INPUT: true; the input reads as it did. -/
def waitsBlockedSpec : ChangeSpec := { name := "waitsBlocked", fn := fun _ => fun
  | [d1, d2] => { results := [.lit (.bool true)], args := [d1, d2] }
  | _ => none }
def waitsBlockedRow : OpenClaim := { program := "ytlhblkpdfdpiaaa", sum := "16254e516cb5fa97a24de46b948436cb8f5631238b549b10c79f4e53851078ff", func := "careen/careenlaw18.WaitsBlocked", spec := "waitsBlocked", unfollowed := true, recurses := true, apart := false }
def WaitsBlockedSaid : Prop := waitsBlockedRow.holds Try.pinned (OpenSpec.ofChange waitsBlockedSpec)

/-- ITS FALSE NEIGHBOUR: 'it returns false'. Refute it at one input. -/
def waitsBlockedWrong : ChangeSpec := { name := "waitsBlocked", fn := fun _ => fun
  | [d1, d2] => { results := [.lit (.bool false)], args := [d1, d2] }
  | _ => none }
def WaitsBlockedWrongFalsely : Prop := waitsBlockedRow.holds Try.pinned (OpenSpec.ofChange waitsBlockedWrong)

/-- 'careenlaw18.WaitsEnd': WHATEVER THE INPUT: true; the input reads as it did. -/
def waitsEndSpec : ChangeSpec := { name := "waitsEnd", fn := fun _ => fun
  | [d] => { results := [.lit (.bool true)], args := [d] }
  | _ => none }
def waitsEndRow : OpenClaim := { program := "ytlhblkpdfdpiaaa", sum := "16254e516cb5fa97a24de46b948436cb8f5631238b549b10c79f4e53851078ff", func := "careen/careenlaw18.WaitsEnd", spec := "waitsEnd", unfollowed := true, recurses := true, apart := false }
def WaitsEndSaid : Prop := waitsEndRow.holds Try.pinned (OpenSpec.ofChange waitsEndSpec)

/-- ITS FALSE NEIGHBOUR: 'it returns false'. Refute it at one input. -/
def waitsEndWrong : ChangeSpec := { name := "waitsEnd", fn := fun _ => fun
  | [d] => { results := [.lit (.bool false)], args := [d] }
  | _ => none }
def WaitsEndWrongFalsely : Prop := waitsEndRow.holds Try.pinned (OpenSpec.ofChange waitsEndWrong)

/-- 'careenlaw18.WaitsFewer': WHATEVER THE INPUT: true; the input reads as it did. -/
def waitsFewerSpec : ChangeSpec := { name := "waitsFewer", fn := fun _ => fun
  | [d1, d2] => { results := [.lit (.bool true)], args := [d1, d2] }
  | _ => none }
def waitsFewerRow : OpenClaim := { program := "ytlhblkpdfdpiaaa", sum := "16254e516cb5fa97a24de46b948436cb8f5631238b549b10c79f4e53851078ff", func := "careen/careenlaw18.WaitsFewer", spec := "waitsFewer", unfollowed := true, recurses := true, apart := false }
def WaitsFewerSaid : Prop := waitsFewerRow.holds Try.pinned (OpenSpec.ofChange waitsFewerSpec)

/-- ITS FALSE NEIGHBOUR: 'it returns false'. Refute it at one input. -/
def waitsFewerWrong : ChangeSpec := { name := "waitsFewer", fn := fun _ => fun
  | [d1, d2] => { results := [.lit (.bool false)], args := [d1, d2] }
  | _ => none }
def WaitsFewerWrongFalsely : Prop := waitsFewerRow.holds Try.pinned (OpenSpec.ofChange waitsFewerWrong)

/-- 'careenlaw18.WaitsAll': WHATEVER THE INPUT: true; the input reads as it did. -/
def waitsAllSpec : ChangeSpec := { name := "waitsAll", fn := fun _ => fun
  | [d] => { results := [.lit (.bool true)], args := [d] }
  | _ => none }
def waitsAllRow : OpenClaim := { program := "ytlhblkpdfdpiaaa", sum := "16254e516cb5fa97a24de46b948436cb8f5631238b549b10c79f4e53851078ff", func := "careen/careenlaw18.WaitsAll", spec := "waitsAll", unfollowed := true, recurses := true, apart := false }
def WaitsAllSaid : Prop := waitsAllRow.holds Try.pinned (OpenSpec.ofChange waitsAllSpec)

/-- ITS FALSE NEIGHBOUR: 'it returns false'. Refute it at one input. -/
def waitsAllWrong : ChangeSpec := { name := "waitsAll", fn := fun _ => fun
  | [d] => { results := [.lit (.bool false)], args := [d] }
  | _ => none }
def WaitsAllWrongFalsely : Prop := waitsAllRow.holds Try.pinned (OpenSpec.ofChange waitsAllWrong)

/- THE SECOND FORM. 'bulk': how many values and letters a reading holds, each counted each time it is reached (what is shared counts as often as it is met; a slice's spare places count too). A statement '..UptoSaid' is the law's where the arguments, and the package variables that the reading takes, are together of bulk at most 1048576: NARROWER than '..Said'. Prove '..Said' where nothing that the law and all that it calls make is longer than what came in: it says more and counts as full. Else prove '..UptoSaid'. A law counts once. -/
mutual
def uptoBulk {H : Type} : DataW H → Nat
  | .lit (.string bytes) => bytes.length + 1
  | .lit _ => 1
  | .nil => 1
  | .ptr d => uptoBulk d + 1
  | .slice elems spare => uptoBulkAll elems + uptoBulkAll spare + 1
  | .agg parts => uptoBulkAll parts + 1
  | .iface _ d => uptoBulk d + 1
  | .map entries => uptoBulkEntries entries + 1
  | .held _ => 1
def uptoBulkAll {H : Type} : List (DataW H) → Nat
  | [] => 0
  | d :: r => uptoBulk d + uptoBulkAll r
def uptoBulkEntries {H : Type} : List (Lit × DataW H) → Nat
  | [] => 0
  | x :: r => uptoBulkEntry x + uptoBulkEntries r
def uptoBulkEntry {H : Type} : Lit × DataW H → Nat
  | (.string bytes, d) => bytes.length + uptoBulk d + 1
  | (_, d) => uptoBulk d + 1
 end
def uptoSmall : (H : Type) → List (DataW H) → Bool := fun _ ds => decide (uptoBulkAll ds ≤ 1048576)
def OpenSpec.upto (s : _root_.Go.ChangeSpec) : _root_.Go.OpenSpec := { _root_.Go.OpenSpec.ofChange s with cond := some uptoSmall }

/-- 'careenlaw18.WaitsTell', WHERE WHAT IT READS IS OF BULK AT MOST 1048576: true; the input reads as it did. -/
def waitsTellUptoRow : OpenClaim := { program := "ytlhblkpdfdpiaaa", sum := "16254e516cb5fa97a24de46b948436cb8f5631238b549b10c79f4e53851078ff", func := "careen/careenlaw18.WaitsTell", spec := "waitsTell", unfollowed := true, recurses := true, apart := false, narrowed := true }
def WaitsTellUptoSaid : Prop := waitsTellUptoRow.holds Try.pinned (OpenSpec.upto waitsTellSpec)

/-- 'careenlaw18.WaitsBlocked', WHERE WHAT IT READS IS OF BULK AT MOST 1048576: true; the input reads as it did. -/
def waitsBlockedUptoRow : OpenClaim := { program := "ytlhblkpdfdpiaaa", sum := "16254e516cb5fa97a24de46b948436cb8f5631238b549b10c79f4e53851078ff", func := "careen/careenlaw18.WaitsBlocked", spec := "waitsBlocked", unfollowed := true, recurses := true, apart := false, narrowed := true }
def WaitsBlockedUptoSaid : Prop := waitsBlockedUptoRow.holds Try.pinned (OpenSpec.upto waitsBlockedSpec)

/-- 'careenlaw18.WaitsEnd', WHERE WHAT IT READS IS OF BULK AT MOST 1048576: true; the input reads as it did. -/
def waitsEndUptoRow : OpenClaim := { program := "ytlhblkpdfdpiaaa", sum := "16254e516cb5fa97a24de46b948436cb8f5631238b549b10c79f4e53851078ff", func := "careen/careenlaw18.WaitsEnd", spec := "waitsEnd", unfollowed := true, recurses := true, apart := false, narrowed := true }
def WaitsEndUptoSaid : Prop := waitsEndUptoRow.holds Try.pinned (OpenSpec.upto waitsEndSpec)

/-- 'careenlaw18.WaitsFewer', WHERE WHAT IT READS IS OF BULK AT MOST 1048576: true; the input reads as it did. -/
def waitsFewerUptoRow : OpenClaim := { program := "ytlhblkpdfdpiaaa", sum := "16254e516cb5fa97a24de46b948436cb8f5631238b549b10c79f4e53851078ff", func := "careen/careenlaw18.WaitsFewer", spec := "waitsFewer", unfollowed := true, recurses := true, apart := false, narrowed := true }
def WaitsFewerUptoSaid : Prop := waitsFewerUptoRow.holds Try.pinned (OpenSpec.upto waitsFewerSpec)

/-- 'careenlaw18.WaitsAll', WHERE WHAT IT READS IS OF BULK AT MOST 1048576: true; the input reads as it did. -/
def waitsAllUptoRow : OpenClaim := { program := "ytlhblkpdfdpiaaa", sum := "16254e516cb5fa97a24de46b948436cb8f5631238b549b10c79f4e53851078ff", func := "careen/careenlaw18.WaitsAll", spec := "waitsAll", unfollowed := true, recurses := true, apart := false, narrowed := true }
def WaitsAllUptoSaid : Prop := waitsAllUptoRow.holds Try.pinned (OpenSpec.upto waitsAllSpec)

end Rows
end Go.Proofs.Ytlhblkpdfdpiaaa
