import Derived.Test.YtghklbflbodajaaA1
import Derived.RangeFuncNested
import Derived.RangeFuncBound
import Derived.RangeFuncCalls
import Derived.RangeFuncLeaves
import Derived.Shelf.Abstract
import Derived.Shelf.RegionOpen
import Derived.OwnWalkIn
import Derived.TacticsInMore
import Derived.LoopNIn
import Derived.LoopIn
import Derived.Test.YtghklbflbodajaaWkAt
import Derived.Test.YtghklbflbodajaaRef11Chain
namespace Go.Proofs.Ytghklbflbodajaa
open Go.RowKit Go.ChangeMaps
set_option linter.unusedVariables false
set_option linter.unusedSimpArgs false
set_option linter.unnecessarySimpa false

section
variable {F : Fence} {n : Nat} {P : Program} {ops : Array Oper} {rest : List Oper} {o : Oper} {a : Act} {w : World} {Q : Exit → Act → World → Prop}

theorem stepIn_storeRow (hgd : o.guard = none) {ty : TypeId} {x y : Operand} (ho : o.op = .store ty x y)
    (g : Nat) {cells : Array Value} (hx : a.eval x = .pointer (some ⟨g, 0, none⟩)) (hy : a.eval y = .agg cells)
    {t : TypeId} {old : Array Value} (hg : w.heap[g]? = some (.cells old t (0, 0))) (hi : (P.info? ty).map (·.size) = some cells.size)
    (hold : old.size = cells.size) (h1 : cells.all (·.oneCell') = true)
    (hK : ∀ w', w'.heap[g]? = some (.cells cells t (0, 0)) → Chg (OneB g) w w' → w'.heap.size = w.heap.size → wpListIn F n P ops Q rest (a.put o.dst undef) w') : wpListIn F n P ops Q (o :: rest) a w := by
  refine wpListIn_plain hgd fun K hK' => ?_
  unfold Oper.wpIn
  refine ⟨?_, ?_⟩
  · simp [Oper.about, ho]
  · rw [Oper.semAt_plain F _ _ (by rw [ho]; intro c hc'; cases hc')]
    simp only [execOp, ho, hx, hy, Instr.storeAt, Instr.sureAddr, Sem.run_bind, Sem.run_pure, Result.andThen_ok, run_storeVar_row w g t ty old cells hg hi hold h1]
    exact hK' _ _ (hK _ (setRow_heap w g old cells t _ hg) ((Chg.refl (OneB g) w).setRow (.inl (OneB.self g)) _) (by simp))

theorem stepIn_app1 {t e : TypeId} {z : Value} {size bytes : Nat} (T : SlT P t e z size bytes) (hg : o.guard = none) (s x : Operand) (hop : o.op = .call { callee := .builtin .append, args := #[s, x], argTypes := #[t, t] })
    {base m : Nat} {v : Value} {xs : List Value} (hown : w.ownsRow base e size v m xs) (hs : a.eval s = v) (b : Nat) (cs : List Value) (hx : a.eval x = .slice (some ⟨b, 0, none⟩) 1 1)
    {c : Array Value} {e' : TypeId} {f : Nat × Nat} (hb : w.heap[b]? = some (.cells c e' f)) (hc : c = cs.toArray) (hl : cs.length = size) (h1 : ∀ u ∈ cs, u.oneCell' = true)
    (hn : (m + 1) * bytes ≤ 140737488355328) (hn2 : m + 1 ≤ maxLen) (hbase : base ≤ w.heap.size)
    (hK : ∀ v' w', w'.ownsRow base e size v' (m + 1) (xs ++ cs) → Chg (OwnB v) w w' → (∀ i, OwnB v' i → OwnB v i ∨ w.heap.size ≤ i) → v' ≠ .slice none 0 0 → wpListIn F n P ops Q rest (a.put o.dst v') w') : wpListIn F n P ops Q (o :: rest) a w := by
  subst hc
  obtain ⟨v', w', hr, h2, h3, h4, h5⟩ := run_app T o.type hown ⟨b, 0, none⟩ 1 1 cs (by omega) (fun j u hu => by
    have e1 : (⟨b, 0, none⟩ : Addr).add j = ⟨b, j, none⟩ := by unfold Addr.add; split <;> simp_all
    rw [e1, cell_blk hb]
    simpa using hu) h1 hn hn2 hbase
  refine wpListIn_plain hg fun K hK' => ?_
  unfold Oper.wpIn
  refine ⟨?_, ?_⟩
  · simp [Oper.about, hop, resolve, Target.leads, Sem.run_pure]
  · rw [Oper.semAt_plain F _ _ (by rw [hop]; intro c hc'; cases hc')]
    simp [execOp, hop, resolve, invoke, builtin, hs, hx, hr, Result.andThen]
    exact hK' _ _ (hK v' w' h2 h3 h4 (fun e => by simpa using h5.1 e))
end
end Go.Proofs.Ytghklbflbodajaa

namespace Go.Proofs.Ytghklbflbodajaa
open Go.RowKit Go.ChangeMaps Go.Shelf
set_option linter.unusedVariables false
set_option linter.unusedSimpArgs false
set_option linter.unnecessarySimpa false

attribute [local go_sem] Oper.semAt_some

/-- An iterator over a walker: its three boxes. -/
structure ItAt (w : World) (q b1 b2 b3 : Nat) (v : Value) (txn : Int) (stop : Option Addr) (er cur : Int) (skips : Bool) : Prop where
  wk : WkAt w q v txn stop er
  box1 : w.heap[b1]? = some (.cells #[.pointer (some ⟨q, 0, none⟩)] 133 (0, 0))
  box2 : w.heap[b2]? = some (.cells #[.int .i64 cur] 3 (0, 0))
  box3 : w.heap[b3]? = some (.cells #[.bool skips] 4 (0, 0))

set_option maxRecDepth 100000 in
theorem from_calls (q : Nat) (last : Int) (skips : Bool) (v : Value) (txn : Int) (stop : Option Addr) (er : Int) (w : World) (h : WkAt w q v txn stop er) :
    Calls Try.prog 61 #[.pointer (some ⟨q, 0, none⟩), .int .i64 last, .bool skips] w fun e w' =>
      e = .returned (.func (.func 74) #[] #[.pointer (some ⟨w.heap.size, 0, none⟩), .pointer (some ⟨w.heap.size + 1, 0, none⟩), .pointer (some ⟨w.heap.size + 1 + 1, 0, none⟩)]) ∧
      ItAt w' q w.heap.size (w.heap.size + 1) (w.heap.size + 1 + 1) v txn stop er last skips ∧ Chg NoB w w' ∧ w'.heap.size = w.heap.size + 3 := by
  have HW := hid h
  clear h
  go_enter Try.func61, Try.ntmps61
  go_wp2
  go_ret
  refine ⟨rfl, ⟨?_, ?_, ?_, ?_⟩, (((Chg.refl _ _).alloc _).alloc _).alloc _, by simp⟩
  · exact HW.out.keep (S := NoB) ((((Chg.refl _ _).alloc _).alloc _).alloc _) (fun e => e)
  · exact blk_alloc (heap_alloc2_old _ _ _) _
  · exact blk_alloc (heap_alloc2_new _ _ _) _
  · have := blk_new ((w.alloc (Obj.cells #[.pointer (some ⟨q, 0, none⟩)] 133)).alloc (Obj.cells #[.int .i64 last] 3)) (Obj.cells #[.bool skips] 4)
    rw [World.size_alloc, World.size_alloc] at this
    exact this
end Go.Proofs.Ytghklbflbodajaa
