/-
  No cell of these rows narrows 'for every input' (looked for: loops, veiled, ifaces, maps, wideKeys, modest, calm, conditions, laid).
  DERIVED. THE GIVEN ROWS OF THIS SEAT. 5 by the template 'for every input the law returns true; each argument reads behind the call as it read before'; 0 by the template 'total and deterministic' (their statements: YtkkhlomfddalnaaTotals.lean).
  GIVEN WITH THE SEED: the statements are not yours to turn. If you find one false, say at which input.
  Laid BY PROGRAM, IN A SANDBOX (cutbox-rows.mjs): the forced cells as the released guide's own fill.sh prints them over the translation 182a01c687030848… (all of the seat's roots in one cut). By AI agents, Wed Nov 11 2026. No macro, syntax, notation, axiom, sorry.
-/
import Derived.Test.YtkkhlomfddalnaaChecked
import GoSem.Claim
import GoSem.ClaimJoined
import GoSem.ClaimMapViews
import Derived.JoinedTies
import Derived.KernelRfl
namespace Go.Proofs.Ytkkhlomfddalnaa
/- THE CELL 'sum', in the pinned program and in every row, IS THE sha256 OF THE DUMP (.gsa) THAT YtkkhlomfddalnaaProg.lean LOADS. Nothing in Lean hashes anything: it is a label: what it is worth is what the hold of that sum in a sandbox is worth. -/
noncomputable def Try.pinned : Pinned := { name := "ytkkhlomfddalnaa", sum := "182a01c687030848155e65ebefc873e6ff2a72d9367a15f6c80a646d711e3f11", checked := Try.checked }
namespace Rows
def none {H : Type} : Left H := { results := [], args := [] }

/-- 'careenlaw11.ChainWalks': WHATEVER THE INPUT: true; the input reads as it did. -/
def chainWalksSpec : ChangeSpec := { name := "chainWalks", fn := fun _ => fun
  | [d1, d2, d3, d4] => { results := [.lit (.bool true)], args := [d1, d2, d3, d4] }
  | _ => none }
def chainWalksRow : OpenClaim := { program := "ytkkhlomfddalnaa", sum := "182a01c687030848155e65ebefc873e6ff2a72d9367a15f6c80a646d711e3f11", func := "careen/careenlaw11.ChainWalks", spec := "chainWalks", unfollowed := true, recurses := true, apart := false }
def ChainWalksSaid : Prop := chainWalksRow.holds Try.pinned (OpenSpec.ofChange chainWalksSpec)

/-- ITS FALSE NEIGHBOUR: 'it returns false'. Refute it at one input. -/
def chainWalksWrong : ChangeSpec := { name := "chainWalks", fn := fun _ => fun
  | [d1, d2, d3, d4] => { results := [.lit (.bool false)], args := [d1, d2, d3, d4] }
  | _ => none }
def ChainWalksWrongFalsely : Prop := chainWalksRow.holds Try.pinned (OpenSpec.ofChange chainWalksWrong)

/-- 'careenlaw11.ChainEnds': WHATEVER THE INPUT: true; the input reads as it did. -/
def chainEndsSpec : ChangeSpec := { name := "chainEnds", fn := fun _ => fun
  | [d] => { results := [.lit (.bool true)], args := [d] }
  | _ => none }
def chainEndsRow : OpenClaim := { program := "ytkkhlomfddalnaa", sum := "182a01c687030848155e65ebefc873e6ff2a72d9367a15f6c80a646d711e3f11", func := "careen/careenlaw11.ChainEnds", spec := "chainEnds", unfollowed := true, recurses := true, apart := false }
def ChainEndsSaid : Prop := chainEndsRow.holds Try.pinned (OpenSpec.ofChange chainEndsSpec)

/-- ITS FALSE NEIGHBOUR: 'it returns false'. Refute it at one input. -/
def chainEndsWrong : ChangeSpec := { name := "chainEnds", fn := fun _ => fun
  | [d] => { results := [.lit (.bool false)], args := [d] }
  | _ => none }
def ChainEndsWrongFalsely : Prop := chainEndsRow.holds Try.pinned (OpenSpec.ofChange chainEndsWrong)

/-- 'careenlaw11.ChainStops': WHATEVER THE INPUT: true; the input reads as it did. -/
def chainStopsSpec : ChangeSpec := { name := "chainStops", fn := fun _ => fun
  | [d1, d2, d3, d4] => { results := [.lit (.bool true)], args := [d1, d2, d3, d4] }
  | _ => none }
def chainStopsRow : OpenClaim := { program := "ytkkhlomfddalnaa", sum := "182a01c687030848155e65ebefc873e6ff2a72d9367a15f6c80a646d711e3f11", func := "careen/careenlaw11.ChainStops", spec := "chainStops", unfollowed := true, recurses := true, apart := false }
def ChainStopsSaid : Prop := chainStopsRow.holds Try.pinned (OpenSpec.ofChange chainStopsSpec)

/-- ITS FALSE NEIGHBOUR: 'it returns false'. Refute it at one input. -/
def chainStopsWrong : ChangeSpec := { name := "chainStops", fn := fun _ => fun
  | [d1, d2, d3, d4] => { results := [.lit (.bool false)], args := [d1, d2, d3, d4] }
  | _ => none }
def ChainStopsWrongFalsely : Prop := chainStopsRow.holds Try.pinned (OpenSpec.ofChange chainStopsWrong)

/-- 'careenlaw11.ChainOther': WHATEVER THE INPUT: true; the input reads as it did. -/
def chainOtherSpec : ChangeSpec := { name := "chainOther", fn := fun _ => fun
  | [d1, d2] => { results := [.lit (.bool true)], args := [d1, d2] }
  | _ => none }
def chainOtherRow : OpenClaim := { program := "ytkkhlomfddalnaa", sum := "182a01c687030848155e65ebefc873e6ff2a72d9367a15f6c80a646d711e3f11", func := "careen/careenlaw11.ChainOther", spec := "chainOther", unfollowed := true, recurses := true, apart := false }
def ChainOtherSaid : Prop := chainOtherRow.holds Try.pinned (OpenSpec.ofChange chainOtherSpec)

/-- ITS FALSE NEIGHBOUR: 'it returns false'. Refute it at one input. -/
def chainOtherWrong : ChangeSpec := { name := "chainOther", fn := fun _ => fun
  | [d1, d2] => { results := [.lit (.bool false)], args := [d1, d2] }
  | _ => none }
def ChainOtherWrongFalsely : Prop := chainOtherRow.holds Try.pinned (OpenSpec.ofChange chainOtherWrong)

/-- 'careenlaw11.ChainCounts': WHATEVER THE INPUT: true; the input reads as it did. -/
def chainCountsSpec : ChangeSpec := { name := "chainCounts", fn := fun _ => fun
  | [d1, d2] => { results := [.lit (.bool true)], args := [d1, d2] }
  | _ => none }
def chainCountsRow : OpenClaim := { program := "ytkkhlomfddalnaa", sum := "182a01c687030848155e65ebefc873e6ff2a72d9367a15f6c80a646d711e3f11", func := "careen/careenlaw11.ChainCounts", spec := "chainCounts", unfollowed := true, recurses := true, apart := false }
def ChainCountsSaid : Prop := chainCountsRow.holds Try.pinned (OpenSpec.ofChange chainCountsSpec)

/-- ITS FALSE NEIGHBOUR: 'it returns false'. Refute it at one input. -/
def chainCountsWrong : ChangeSpec := { name := "chainCounts", fn := fun _ => fun
  | [d1, d2] => { results := [.lit (.bool false)], args := [d1, d2] }
  | _ => none }
def ChainCountsWrongFalsely : Prop := chainCountsRow.holds Try.pinned (OpenSpec.ofChange chainCountsWrong)

/- THE SECOND FORM. 'bulk': how many values and letters a reading holds, each counted each time it is reached (what is shared counts as often as it is met; a slice's spare places count too). A statement '..UptoSaid' is the law's where the arguments, and the package variables that the reading takes, are together of bulk at most 1048576: NARROWER than '..Said'. Prove '..Said' where nothing that the law and all that it calls make is longer than what came in: it says more and counts as full. Else prove '..UptoSaid'. A law counts once. -/
mutual
def uptoBulk {H : Type} : DataW H → Nat
  | .lit (.string bytes) => bytes.length + 1
  | .lit _ => 1
  | .nil => 1
  | .ptr d => uptoBulk d + 1
  | .slice elems spare => uptoBulkAll elems + uptoBulkAll spare + 1
  | .agg parts => uptoBulkAll parts + 1
  | .iface _ d => uptoBulk d + 1
  | .map entries => uptoBulkEntries entries + 1
  | .held _ => 1
def uptoBulkAll {H : Type} : List (DataW H) → Nat
  | [] => 0
  | d :: r => uptoBulk d + uptoBulkAll r
def uptoBulkEntries {H : Type} : List (Lit × DataW H) → Nat
  | [] => 0
  | x :: r => uptoBulkEntry x + uptoBulkEntries r
def uptoBulkEntry {H : Type} : Lit × DataW H → Nat
  | (.string bytes, d) => bytes.length + uptoBulk d + 1
  | (_, d) => uptoBulk d + 1
 end
def uptoSmall : (H : Type) → List (DataW H) → Bool := fun _ ds => decide (uptoBulkAll ds ≤ 1048576)
def OpenSpec.upto (s : _root_.Go.ChangeSpec) : _root_.Go.OpenSpec := { _root_.Go.OpenSpec.ofChange s with cond := some uptoSmall }

/-- 'careenlaw11.ChainWalks', WHERE WHAT IT READS IS OF BULK AT MOST 1048576: true; the input reads as it did. -/
def chainWalksUptoRow : OpenClaim := { program := "ytkkhlomfddalnaa", sum := "182a01c687030848155e65ebefc873e6ff2a72d9367a15f6c80a646d711e3f11", func := "careen/careenlaw11.ChainWalks", spec := "chainWalks", unfollowed := true, recurses := true, apart := false, narrowed := true }
def ChainWalksUptoSaid : Prop := chainWalksUptoRow.holds Try.pinned (OpenSpec.upto chainWalksSpec)

/-- 'careenlaw11.ChainEnds', WHERE WHAT IT READS IS OF BULK AT MOST 1048576: true; the input reads as it did. -/
def chainEndsUptoRow : OpenClaim := { program := "ytkkhlomfddalnaa", sum := "182a01c687030848155e65ebefc873e6ff2a72d9367a15f6c80a646d711e3f11", func := "careen/careenlaw11.ChainEnds", spec := "chainEnds", unfollowed := true, recurses := true, apart := false, narrowed := true }
def ChainEndsUptoSaid : Prop := chainEndsUptoRow.holds Try.pinned (OpenSpec.upto chainEndsSpec)

/-- 'careenlaw11.ChainStops', WHERE WHAT IT READS IS OF BULK AT MOST 1048576: true; the input reads as it did. -/
def chainStopsUptoRow : OpenClaim := { program := "ytkkhlomfddalnaa", sum := "182a01c687030848155e65ebefc873e6ff2a72d9367a15f6c80a646d711e3f11", func := "careen/careenlaw11.ChainStops", spec := "chainStops", unfollowed := true, recurses := true, apart := false, narrowed := true }
def ChainStopsUptoSaid : Prop := chainStopsUptoRow.holds Try.pinned (OpenSpec.upto chainStopsSpec)

/-- 'careenlaw11.ChainOther', WHERE WHAT IT READS IS OF BULK AT MOST 1048576: true; the input reads as it did. -/
def chainOtherUptoRow : OpenClaim := { program := "ytkkhlomfddalnaa", sum := "182a01c687030848155e65ebefc873e6ff2a72d9367a15f6c80a646d711e3f11", func := "careen/careenlaw11.ChainOther", spec := "chainOther", unfollowed := true, recurses := true, apart := false, narrowed := true }
def ChainOtherUptoSaid : Prop := chainOtherUptoRow.holds Try.pinned (OpenSpec.upto chainOtherSpec)

/-- 'careenlaw11.ChainCounts', WHERE WHAT IT READS IS OF BULK AT MOST 1048576: true; the input reads as it did. -/
def chainCountsUptoRow : OpenClaim := { program := "ytkkhlomfddalnaa", sum := "182a01c687030848155e65ebefc873e6ff2a72d9367a15f6c80a646d711e3f11", func := "careen/careenlaw11.ChainCounts", spec := "chainCounts", unfollowed := true, recurses := true, apart := false, narrowed := true }
def ChainCountsUptoSaid : Prop := chainCountsUptoRow.holds Try.pinned (OpenSpec.upto chainCountsSpec)

end Rows
end Go.Proofs.Ytkkhlomfddalnaa
