import Derived.Test.YtghklbflbodajaaBld
namespace Go.Proofs.Ytghklbflbodajaa
open Go.RowKit Go.ChangeMaps Go.MapKept
set_option linter.unusedVariables false
set_option linter.unusedSimpArgs false
set_option linter.unnecessarySimpa false
set_option maxHeartbeats 8000000

set_option maxRecDepth 100000 in
theorem make220 (w : World) : (Instr.makeSlice 64 (.int .i64 220) (.int .i64 220)).run Try.prog w = .ok (.slice (some ⟨w.heap.size, 0, none⟩) 220 220) (w.alloc (.cells (Lib.byteCells (List.replicate 220 0)).toArray 5)) := by
  obtain ⟨i, hi, hz0, hz1, hz2⟩ := info_parts slByte.inf
  have h := run_makeSlice (P := Try.prog) (w := w) 64 5 i _ slByte.und hi hz0 .i64 .i64 220 220 (by decide) (by decide) (by rw [hz1]; decide) (by rw [hz2]; decide) (by decide)
  rw [hz1] at h
  have e : madeCells (Value.int .u8 0).cells ((220 : Int).toNat * 1) = (Lib.byteCells (List.replicate 220 0)).toArray := by kernel_rfl
  rw [h, e]
  rfl
set_option maxRecDepth 100000 in
theorem rEmpty_calls (w : World) :
    Calls Try.prog 28 #[] w fun e w' => e = .returned Pg.empty.val ∧ Chg NoB w w' := by
  have hmk := make220
  go_enter Try.func28, Try.ntmps28
  go_wp2_with (first
    | ((fail_if_success (fail_if_success (with_reducible change wpList _ _ _ (Oper.mk _ (.convert 64 _ _) _ _ _ _ :: _) _ _))); refine step_convS rfl _ _ _ _ rfl Try.underlying64 Try.underlying5 Try.underlying9 (show BytesAt _ (w.heap.size + 1) 5 (List.replicate 220 0) by have := blk_new (w.alloc (.cells #[.int .i64 0, .string ⟨#[]⟩] 40)) (.cells (Lib.byteCells (List.replicate 220 0)).toArray 5); rw [World.size_alloc] at this; exact this) 220 220 (by simp) rfl ?_)
    | ((fail_if_success (fail_if_success (with_reducible change wpList _ _ _ (Oper.mk _ (.store 40 _ _) _ _ _ _ :: _) _ _))); refine step_storeRow rfl rfl w.heap.size rfl rfl (blk_alloc (blk_new _ _) _) (by kernel_rfl) rfl (by simp [Value.oneCell']) ?_; intro w2 hb2 hc2 hs2))
  refine bodyPost_ret (results_cell_row rfl _ _ w.heap.size _ _ _ _ rfl hb2 Try.underlying40 rfl (by kernel_rfl)) rfl ?_
  refine ⟨rfl, ?_⟩
  exact (((Chg.refl NoB w).alloc _).alloc _).new hc2 (fun i hi => by have h' : i = w.heap.size := hi; omega)
end Go.Proofs.Ytghklbflbodajaa
