import Derived.Test.YtlhblkpdfdpiaaaCell
import Derived.Lib.BufferWrite
namespace Go.Proofs.Ytlhblkpdfdpiaaa
open Go.RowKit Go.ChangeMaps Go.MapKept
set_option linter.unusedVariables false
set_option linter.unusedSimpArgs false
set_option linter.unnecessarySimpa false
/-- A cell is stored into a block that is known whole. -/
theorem step_storeC2 {P : Program} {ops : Array Oper} {rest : List Oper} {o : Oper} {a : Act} {w : World} {Q : Exit → Act → World → Prop} (hgd : o.guard = none) {ty : TypeId} {x y : Operand} (ho : o.op = .store ty x y)
    (g off : Nat) {v : Value} (hx : a.eval x = .pointer (some ⟨g, off, none⟩)) (hy : a.eval y = v) (hv : v.cells = #[v]) (h1 : v.oneCell' = true) {t : TypeId} {cs : List Value} (hg : w.heap[g]? = some (.cells cs.toArray t (0, 0))) (hlt : off < cs.length) (hi : (P.info? ty).map (·.size) = some 1)
    (hK : ∀ w', w'.heap[g]? = some (.cells (cs.set off v).toArray t (0, 0)) → Chg (OneB g) w w' → w'.heap.size = w.heap.size → wpList P ops Q rest (a.put o.dst undef) w') : wpList P ops Q (o :: rest) a w := by
  have hst := run_storeCells_at P g off t [v] 0 cs.toArray w hg (by simp; omega) (by simpa using h1)
  simp only [Nat.add_zero] at hst
  have hset : cs.toArray.toList.take off ++ [v] ++ cs.toArray.toList.drop (off + [v].length) = cs.set off v := by
    simp only [List.length_cons, List.length_nil, Nat.zero_add]
    rw [List.set_eq_take_append_cons_drop, if_pos hlt]; simp
  have hsv : (storeVar ty ⟨g, off, none⟩ v).run P w = .ok () (w.setRow g (cs.set off v).toArray) := by
    unfold storeVar
    cases hq : P.info? ty with
    | none => simp [hq] at hi
    | some i =>
      simp [hq] at hi
      rw [hset] at hst
      simp [sizeOf, typeInfo, hq, hi, hv, hst]
  refine step_skip (w' := w.setRow g (cs.set off v).toArray) (wanted_none hgd) ?_ (hK _ (setRow_heap w g _ _ t _ hg) ((Chg.refl (OneB g) w).setRow (.inl (OneB.self g)) _) (by simp))
  simp [execOp, ho, hx, hy, Instr.storeAt, Instr.sureAddr, hsv, Result.andThen]

end Go.Proofs.Ytlhblkpdfdpiaaa
