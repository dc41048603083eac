import Derived.Test.YtobmaipjbepphaaPg1
namespace Go.Proofs.Ytobmaipjbepphaa
open Go.RowKit Go.ChangeMaps Go.MapKept
set_option linter.unusedVariables false
set_option maxHeartbeats 4000000

def Pg.empty : Pg := ⟨0, ⟨Array.replicate 220 0⟩⟩

set_option maxRecDepth 100000 in
theorem zero_arr (w : World) : (zeroValue 78).run Try.prog w = .ok (.agg (Lib.byteCells (List.replicate 220 0)).toArray) w := by kernel_rfl

set_option maxRecDepth 100000 in
theorem empty_calls (w : World) :
    Calls Try.prog 22 #[] w fun e w' => e = .returned Pg.empty.val ∧ Chg NoB w w' := by
  go_enter Try.func22, Try.ntmps22
  go_wp2_with (first
    | ((fail_if_success (fail_if_success (with_reducible change wpList _ _ _ (Oper.mk _ (.alloc 78) _ _ _ _ :: _) _ _))); refine step_allocB rfl _ rfl (zero_arr _) ?_; intro w1 hb hc hs; rw [World.size_alloc] at hb hs; have hb0 := hc.heap (blk_new _ _) (fun e => e))
    | ((fail_if_success (fail_if_success (with_reducible change wpList _ _ _ (Oper.mk _ (.convert 79 _ _) _ _ _ _ :: _) _ _))); refine step_convS rfl _ _ _ _ rfl Try.underlying79 Try.underlying5 Try.underlying9 hb 220 220 (by simp) rfl ?_)
    | ((fail_if_success (fail_if_success (with_reducible change wpList _ _ _ (Oper.mk _ (.store 58 _ _) _ _ _ _ :: _) _ _))); refine step_storeRow rfl rfl w.heap.size rfl rfl hb0 (by kernel_rfl) rfl (by simp [Value.oneCell']) ?_; intro w2 hb2 hc2 hs2))
  refine bodyPost_ret (results_cell_row rfl _ _ w.heap.size _ _ _ _ rfl hb2 Try.underlying58 rfl (by kernel_rfl)) rfl ?_
  refine ⟨rfl, ?_⟩
  exact (((Chg.refl _ _).alloc _).trans' hc).trans hc2 (fun i hi => by cases hi; exact .inr (Nat.le_refl _))
end Go.Proofs.Ytobmaipjbepphaa
