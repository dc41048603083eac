import Derived.Test.YtkkhlomfddalnaaWkAt
import Derived.Test.YtkkhlomfddalnaaFIn
import Derived.Test.YtkkhlomfddalnaaRef11Chain
namespace Go.Proofs.Ytkkhlomfddalnaa
open Go.RowKit Go.ChangeMaps Go.Shelf
set_option linter.unusedVariables false

attribute [local go_sem] Oper.semAt_some

/-- An iterator over a walker: its three boxes. -/
structure ItAt (w : World) (q b1 b2 b3 : Nat) (v : Value) (txn : Int) (stop : Option Addr) (er cur : Int) (skips : Bool) : Prop where
  wk : WkAt w q v txn stop er
  box1 : w.heap[b1]? = some (.cells #[.pointer (some ⟨q, 0, none⟩)] 53 (0, 0))
  box2 : w.heap[b2]? = some (.cells #[.int .i64 cur] 3 (0, 0))
  box3 : w.heap[b3]? = some (.cells #[.bool skips] 4 (0, 0))

set_option maxRecDepth 100000 in
theorem from_calls (q : Nat) (last : Int) (skips : Bool) (v : Value) (txn : Int) (stop : Option Addr) (er : Int) (w : World) (h : WkAt w q v txn stop er) :
    Calls Try.prog 23 #[.pointer (some ⟨q, 0, none⟩), .int .i64 last, .bool skips] w fun e w' =>
      e = .returned (.func (.func 26) #[] #[.pointer (some ⟨w.heap.size, 0, none⟩), .pointer (some ⟨w.heap.size + 1, 0, none⟩), .pointer (some ⟨w.heap.size + 1 + 1, 0, none⟩)]) ∧
      ItAt w' q w.heap.size (w.heap.size + 1) (w.heap.size + 1 + 1) v txn stop er last skips ∧ Chg NoB w w' ∧ w'.heap.size = w.heap.size + 3 := by
  have HW := hid h
  clear h
  go_enter Try.func23, Try.ntmps23
  go_wp2
  go_ret
  refine ⟨rfl, ⟨?_, ?_, ?_, ?_⟩, (((Chg.refl _ _).alloc _).alloc _).alloc _, by simp⟩
  · exact HW.out.keep (S := NoB) ((((Chg.refl _ _).alloc _).alloc _).alloc _) (fun e => e)
  · exact blk_alloc (heap_alloc2_old _ _ _) _
  · exact blk_alloc (heap_alloc2_new _ _ _) _
  · have := blk_new ((w.alloc (Obj.cells #[.pointer (some ⟨q, 0, none⟩)] 53)).alloc (Obj.cells #[.int .i64 last] 3)) (Obj.cells #[.bool skips] 4)
    rw [World.size_alloc, World.size_alloc] at this
    exact this
end Go.Proofs.Ytkkhlomfddalnaa
