import Derived.Test.YtghklbflbodajaaFrom2
import Derived.Test.YtghklbflbodajaaRef11Chain
namespace Go.Proofs.Ytghklbflbodajaa
open Go.RowKit Go.ChangeMaps Go.Shelf
set_option linter.unusedVariables false
set_option linter.unusedSimpArgs false
set_option linter.unnecessarySimpa false

attribute [local go_sem] Oper.semAt_some

/-- Chain's own, between two rounds. -/
structure ChI (w : World) (c base : Nat) (pre : List (Int × Rec)) (A : World) : Prop where
  own : ∃ o, A.heap[c]? = some (.cells #[o] 124 (0, 0)) ∧ A.ownsRow base 3 1 o pre.length (pre.map (fun x => Value.int .i64 x.1))
  chg : Chg NoB w A
  size : base ≤ A.heap.size

theorem ownsBase {w : World} {B B' : Nat} {e : TypeId} {size : Nat} {v : Value} {n : Nat} {xs : List Value} (h : w.ownsRow B e size v n xs) (hb : B' ≤ B) : w.ownsRow B' e size v n xs := by
  refine ⟨h.1, ?_⟩
  rcases h.2 with h2 | ⟨g, cap, cur, h3, h4, h5⟩
  · exact .inl h2
  · exact .inr ⟨g, cap, cur, h3, Nat.le_trans hb h4, h5⟩
theorem chgPut {S : Nat → Prop} {a w : World} (h : Chg S a w) {l : Nat} (hl : S l ∨ a.heap.size ≤ l) (o : Obj) : Chg S a (w.putObj l o) :=
  h.trans (T := OneB l) ⟨rfl, rfl, rfl, by simp, fun k _ hk => World.putObj_heap_other hk⟩ fun i hi => by cases hi; exact hl

/-- The result's cell and what its slice owns. -/
def CellB (c : Nat) (A : World) : Nat → Prop := fun k => k = c ∨ ∃ o, A.cell? ⟨c, 0, none⟩ = some o ∧ OwnB o k

end Go.Proofs.Ytghklbflbodajaa

namespace Go.Proofs.Ytghklbflbodajaa
open Go.RowKit Go.ChangeMaps
set_option linter.unusedVariables false
set_option linter.unusedSimpArgs false
set_option linter.unnecessarySimpa false

def stands (x : List (Int × Rec)) : List (Int × Rec) := x.filter (fun y => y.2.kind == 1)
theorem stands_yes {x : List (Int × Rec)} {p : Int} {r : Rec} (h : (r.kind == 1) = true) : stands (x ++ [(p, r)]) = stands x ++ [(p, r)] := by simp [stands, List.filter_append, h]
theorem stands_no {x : List (Int × Rec)} {p : Int} {r : Rec} (h : (r.kind == 1) = false) : stands (x ++ [(p, r)]) = stands x := by simp [stands, List.filter_append, h]
theorem nextOf_upd {r : Rec} (h : (r.kind == 1) = true) : nextOf true r = r.prev := by
  have : r.kind = 1 := by simpa using h
  simp [nextOf, this]
theorem nextOf_undo {p txn : Int} {r : Rec} (hb : recBad txn p r = false) (h : (r.kind == 1) = false) : nextOf true r = r.next := by
  simp [recBad, h] at hb
  simp [nextOf, hb.1]

end Go.Proofs.Ytghklbflbodajaa

namespace Go.Proofs.Ytghklbflbodajaa
open Go.RowKit Go.ChangeMaps Go.Shelf
set_option linter.unusedVariables false
set_option linter.unusedSimpArgs false
set_option linter.unnecessarySimpa false

attribute [local go_sem] Oper.semAt_some

/-- Left's own, between two rounds. -/
structure LeI (w : World) (c base : Nat) (pre : List (Int × Rec)) (A : World) : Prop where
  own : A.heap[c]? = some (.cells #[.int .i64 (stands pre).length] 3 (0, 0))
  chg : Chg NoB w A
  size : base ≤ A.heap.size

def leftOf (l : List Ent) (txn last : Int) : Int × Int := if (standOf l txn last).2 = 0 then ((standOf l txn last).1.length, 0) else (0, (standOf l txn last).2)

end Go.Proofs.Ytghklbflbodajaa
