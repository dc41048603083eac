import Derived.Test.YtmhmlfdidnhaoaaLockAwake
namespace Go.Proofs.Ytmhmlfdidnhaoaa
open Go.RowKit Go.ChangeMaps

set_option maxRecDepth 100000 in
theorem lockPages_nil (txn : Int) (w : World) : Calls Try.prog 14 #[.pointer none, .int .i64 txn] w fun e w' => e = .returned (.slice none 0 0) ∧ w = w' := by
  go_enter Try.func14, Try.ntmps14
  go_wp2
  go_loop [4, 6] (fun v i => v = .slice none 0 0 ∧ ∃ k : Nat, k ≤ 8 ∧ i = .int .i64 k) (fun _ i => 8 - (intOf i).toNat)
  case atStart => exact ⟨rfl, 0, by omega, rfl⟩
  case round =>
    obtain ⟨rfl, k, hk, rfl⟩ := hrel
    by_cases hlt : k < 8
    · go_wp2
      go_round
      case rel => exact ⟨rfl, k + 1, by omega, by go_num⟩
      case measure => simp [intOf]; omega
    · obtain rfl : k = 8 := by omega
      go_wp2
      go_ret
      exact ⟨rfl, rfl⟩

set_option maxRecDepth 100000 in
theorem lockNil_walk (w : World) (a0 : Int) (_w0 : (Lit.int .i64 a0).wf = true) (a1 : Int) (_w1 : (Lit.int .i64 a1).wf = true) (a2 : Int) (_w2 : (Lit.int .i64 a2).wf = true) :
    Calls Try.prog 7 #[.int .i64 a0, .int .i64 a1, .int .i64 a2] w fun e w' => e = .returned (.bool true) ∧ Chg NoB w w' := by
  go_enter Try.func7, Try.ntmps7
  go_wp2_with (first | (go_at_call 8; refine (awake w).mono ?_; rintro e w1 ⟨rfl, c1⟩) | (go_at_call 14; refine (lockPages_nil a0 w1).mono ?_; rintro e w2 ⟨rfl, rfl⟩) | go_in)
  go_ret
  exact ⟨rfl, c1⟩
end Go.Proofs.Ytmhmlfdidnhaoaa
