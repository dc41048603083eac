import Derived.Test.YtghklbflbodajaaA6
import Derived.Test.YtghklbflbodajaaA1
namespace Go.Proofs.Ytghklbflbodajaa
open Go.RowKit Go.ChangeMaps
set_option linter.unusedVariables false
set_option linter.unusedSimpArgs false
set_option linter.unnecessarySimpa false

theorem slRec : SlT Try.prog 106 78 (.agg #[.int .i64 0, .int .i64 0, .int .i64 0, .int .i64 0, .int .i64 0, .int .i64 0, .int .i64 0, .string ⟨#[]⟩, .string ⟨#[]⟩, .slice none 0 0, .slice none 0 0]) 11 136 := ⟨Try.underlying106, by kernel_rfl, rfl, by omega⟩

/-- A list of records of one's own, without tables, and an error. -/
def RecsErr (w w' : World) (e : Ending) (x : List Rec × Int) : Prop := ∃ v, e = .returned (.tuple #[v, .int .i64 x.2]) ∧ w'.ownsRow w.heap.size 78 11 v x.1.length (x.1.flatMap Rec.csn) ∧ Chg NoB w w'

theorem RecsErr.nil {w w' : World} {x : List Rec × Int} {er : Int} (hx : x = ([], er)) (hc : Chg NoB w w') {e : Ending} (he : e = .returned (.tuple #[.slice none 0 0, .int .i64 er])) : RecsErr w w' e x := by
  subst hx; exact ⟨_, he, World.ownsRow_nil _ _ _ _, hc⟩
theorem RecsErr.ok {txn : Int} {w w' : World} {x : List Rec × Int} {pre : List (Int × Rec)} {v : Value} (hx : x = (pre.map (fun y => undoRec txn y.2), 0)) (ho : w'.ownsRow w.heap.size 78 11 v pre.length (pre.flatMap (fun y => (undoRec txn y.2).csn))) (hc : Chg NoB w w') {e : Ending} (he : e = .returned (.tuple #[v, .int .i64 0])) : RecsErr w w' e x := by
  subst hx
  refine ⟨v, he, ?_, hc⟩
  simp only [List.length_map, List.flatMap_map]
  exact ho

end Go.Proofs.Ytghklbflbodajaa
