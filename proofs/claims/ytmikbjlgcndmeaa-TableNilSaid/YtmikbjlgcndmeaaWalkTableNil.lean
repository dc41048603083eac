import Derived.Test.YtmikbjlgcndmeaaTbw
namespace Go.Proofs.Ytmikbjlgcndmeaa
open Go.RowKit Go.ChangeMaps
set_option linter.unusedVariables false

set_option maxRecDepth 100000 in
theorem tabBack_nil (n k : Int) (w : World) : Calls Try.prog 14 #[.pointer none, .int .i64 n, .int .i64 k] w fun e w' => e = .returned (.tuple #[.int .i64 0, .int .i64 0, .int .i64 10]) ∧ w = w' := by
  go_enter Try.func14, Try.ntmps14
  go_wp2_with (go_at_call 29; refine (tabFind_nil _ _).mono ?_; rintro e w2 ⟨rfl, rfl⟩)
  go_ret3
  exact ⟨rfl, rfl⟩

set_option maxRecDepth 100000 in
theorem tabRow_nil (n : Int) (w : World) : Calls Try.prog 22 #[.pointer none, .int .i64 n] w fun e w' => e = .returned (.tuple #[.agg #[.int .i64 0, .int .i64 0, .int .i64 0], .int .i64 0, .int .i64 10]) ∧ Chg NoB w w' := by
  go_enter Try.func22, Try.ntmps22
  go_wp2_with (go_at_call 29; refine (tabFind_nil _ _).mono ?_; rintro e w2 ⟨rfl, rfl⟩)
  refine bodyPost_ret (res_row3 Try.underlying49 rfl _ _ w.heap.size rfl (blk_new _ _) (by kernel_rfl)) rfl ?_
  exact ⟨rfl, (Chg.refl _ _).alloc _⟩

set_option maxRecDepth 100000 in
set_option maxHeartbeats 8000000 in
theorem tableNil_walk (w : World) (n : Int) (_w0 : (Lit.int .i64 n).wf = true) (k : Int) (_w1 : (Lit.int .i64 k).wf = true) :
    Calls Try.prog 5 #[.int .i64 n, .int .i64 k] w fun e w' => e = .returned (.bool true) ∧ Chg NoB w w' := by
  go_enter Try.func5, Try.ntmps5
  go_wp2_with (first | (go_at_call 8; refine (awake _).mono ?_; rintro e w1 ⟨rfl, c1⟩) | (go_at_call 29; refine (tabFind_nil _ _).mono ?_; rintro e w2 ⟨rfl, rfl⟩) | (go_at_call 14; refine (tabBack_nil _ _ _).mono ?_; rintro e w2 ⟨rfl, rfl⟩) | (go_at_call 22; refine (tabRow_nil _ _).mono ?_; rintro e w0 ⟨rfl, c0⟩) | go_in)
  go_ret
  refine ⟨rfl, ?_⟩
  exact (c0.alloc _).trans' c1
end Go.Proofs.Ytmikbjlgcndmeaa
