import Derived.Test.YtekjchphlphecaaA9
import Derived.Test.YtekjchphlphecaaUndoFn
namespace Go.Proofs.Ytekjchphlphecaa
open Go.RowKit Go.ChangeMaps Go.MapKept
attribute [local go_sem] Go.Oper.rdK
set_option linter.unusedVariables false
set_option linter.unusedSimpArgs false
set_option maxHeartbeats 8000000

theorem zero_int (w : World) : (zeroValue 3).run Try.prog w = .ok (.int .i64 0) w := by kernel_rfl
set_option maxRecDepth 100000 in
theorem prom1_calls (w0 : World) (p g rl : Nat) (lv : Value) (s : SS) (tb : Nat) (a b : Int) (w : World) (h : StAt w0 w p g rl lv s) (ht : w.cell? ⟨tb, 0, none⟩ = some (.pointer (some ⟨p, 0, none⟩))) (r : Int) (hr : Hid (r = cmpI ((mget s.last b).getD 0) ((mget s.last a).getD 0))) :
    Calls Try.prog 35 #[.int .i64 a, .int .i64 b, .pointer (some ⟨tb, 0, none⟩)] w fun e w' => e = .returned (.int .i64 r) ∧ w' = w.drew := by
  obtain ⟨c0, c1, c2⟩ := h.cells
  have HM := hid h.mp
  obtain ⟨va, hva⟩ := named ((mget s.last a).getD 0)
  obtain ⟨vb, hvb⟩ := named ((mget s.last b).getD 0)
  rw [← hva.out, ← hvb.out] at hr
  have HA : Hid (∀ w', Chg NoB w w' → (Instr.lookup 66 (.map (some rl)) (.int .i64 a) false).run Try.prog w' = .ok (.int .i64 va) w') := hid (fun w' hc => by
    rw [hva.out, (HM.out.chg hc nob).lookup Try.underlying66 Try.underlying3 (zero_int _) a false]
    cases mget s.last a <;> rfl)
  have HB : Hid (∀ w', Chg NoB w w' → (Instr.lookup 66 (.map (some rl)) (.int .i64 b) false).run Try.prog w' = .ok (.int .i64 vb) w') := hid (fun w' hc => by
    rw [hvb.out, (HM.out.chg hc nob).lookup Try.underlying66 Try.underlying3 (zero_int _) b false]
    cases mget s.last b <;> rfl)
  clear h c0 c1
  go_enter Try.func35, Try.ntmps35
  go_upto_region 1 with fail
  refine wp_region_ord 14 (.rd 0 (.rd 1 (.rd 2 (.rd 3 (.rd 4 (.rd 5 (.rd 6 (.rd 7 (.rd 8 (.rd 9 (.rd 10 (.rd 11 (.one 12 (.rd 13 (.done))))))))))))))) (fun w' => Same w w' ∧ (Instr.lookup 66 (.map (some rl)) (.int .i64 a) false).run Try.prog w' = .ok (.int .i64 va) w' ∧ (Instr.lookup 66 (.map (some rl)) (.int .i64 b) false).run Try.prog w' = .ok (.int .i64 vb) w') (by kernel_rfl) (by kernel_rfl) (by kernel_rfl) (by kernel_rfl) (by kernel_rfl) (fun _ _ d _ _ h => by cases d <;> exact h) (⟨Same.of (Chg.refl _ _).drew, HA.out _ (Chg.refl NoB w).drew, HB.out _ (Chg.refl NoB w).drew⟩) (fun hS0 => ?_)
  refine wpOrd_rd rfl rfl (by first | decide | simp) (by assumption) (fun w' hw' K hK => by ((try unfold Same at hw'); (try go_split_ands); go_simp; exact hK)) ?_
  refine wpOrd_rd rfl rfl (by first | decide | simp) (by assumption) (fun w' hw' K hK => by ((try unfold Same at hw'); (try go_split_ands); go_simp; exact hK)) ?_
  refine wpOrd_rd rfl rfl (by first | decide | simp) (by assumption) (fun w' hw' K hK => by ((try unfold Same at hw'); (try go_split_ands); go_simp; exact hK)) ?_
  refine wpOrd_rd rfl rfl (by first | decide | simp) (by assumption) (fun w' hw' K hK => by ((try unfold Same at hw'); (try go_split_ands); go_simp; exact hK)) ?_
  refine wpOrd_rd rfl rfl (by first | decide | simp) (by assumption) (fun w' hw' K hK => by ((try unfold Same at hw'); (try go_split_ands); go_simp; exact hK)) ?_
  refine wpOrd_rd rfl rfl (by first | decide | simp) (by assumption) (fun w' hw' K hK => by ((try unfold Same at hw'); (try go_split_ands); go_simp; exact hK)) ?_
  refine wpOrd_rd rfl rfl (by first | decide | simp) (by assumption) (fun w' hw' K hK => by ((try unfold Same at hw'); (try go_split_ands); go_simp; exact hK)) ?_
  refine wpOrd_rd rfl rfl (by first | decide | simp) (by assumption) (fun w' hw' K hK => by ((try unfold Same at hw'); (try go_split_ands); go_simp; exact hK)) ?_
  refine wpOrd_rd rfl rfl (by first | decide | simp) (by assumption) (fun w' hw' K hK => by ((try unfold Same at hw'); (try go_split_ands); go_simp; exact hK)) ?_
  refine wpOrd_rd rfl rfl (by first | decide | simp) (by assumption) (fun w' hw' K hK => by ((try unfold Same at hw'); (try go_split_ands); go_simp; exact hK)) ?_
  refine wpOrd_rd rfl rfl (by first | decide | simp) (by assumption) (fun w' hw' K hK => by ((try unfold Same at hw'); (try go_split_ands); go_simp; exact hK)) ?_
  refine wpOrd_rd rfl rfl (by first | decide | simp) (by assumption) (fun w' hw' K hK => by ((try unfold Same at hw'); (try go_split_ands); go_simp; exact hK)) ?_
  refine wpOrd_do rfl ?_
  (first | refine wpList_plain rfl (fun K hK => ?_) | refine wpList_step (fun K hK => ?_))
  go_simp
  ((with_reducible refine (cmp_calls vb va _ r hr).mono ?_); rintro e w2 ⟨rfl, rfl⟩)
  refine hK _ _ ?_
  clear hK K
  (try dsimp only [Act.put])
  refine wpOrd_done (⟨Same.of (Chg.refl _ _).drew, HA.out _ (Chg.refl NoB w).drew, HB.out _ (Chg.refl NoB w).drew⟩) (fun hS1 => ?_)
  refine wpOrd_rd rfl rfl (by first | decide | simp) (by assumption) (fun w' hw' K hK => by ((try unfold Same at hw'); (try go_split_ands); go_simp; exact hK)) ?_
  refine wpOrd_nil ?_
  go_wp2_with fail
  go_ret
  exact ⟨rfl, rfl⟩
end Go.Proofs.Ytekjchphlphecaa
