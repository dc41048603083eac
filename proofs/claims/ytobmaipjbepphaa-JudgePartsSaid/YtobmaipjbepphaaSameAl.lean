import Derived.Test.YtobmaipjbepphaaRecSame1
import Derived.Test.YtobmaipjbepphaaJuF
namespace Go.Proofs.Ytobmaipjbepphaa
open Go.RowKit Go.ChangeMaps Go.MapKept
attribute [local go_sem] Go.Oper.rdK
set_option linter.unusedVariables false
set_option maxHeartbeats 8000000

theorem recSame_lit (a : Rec) (va1 va2 vb1 vb2 : Value) (w : World) (hta : Tabs w a va1 va2) (htb : Tabs w a vb1 vb2) :
    Calls Try.prog 18 #[.agg #[.int .i64 a.kind, .int .i64 a.txn, .int .i64 a.page, .int .i64 a.off, .int .i64 a.prev, .int .i64 a.next, .int .i64 a.beg, .string a.before, .string a.after, va1, va2], .agg #[.int .i64 a.kind, .int .i64 a.txn, .int .i64 a.page, .int .i64 a.off, .int .i64 a.prev, .int .i64 a.next, .int .i64 a.beg, .string a.before, .string a.after, vb1, vb2]] w fun e w' => e = .returned (.bool true) ∧ Chg NoB w w' :=
  recSame a a va1 va2 vb1 vb2 w hta htb true (hid (by simp))

set_option maxRecDepth 100000 in
/-- SameAll of two that are the same. -/
theorem sameAll (va vb : Value) (l : List Ent) (w : World) (ha : Ents w va l) (hb : Ents w vb l) (hl : l.length ≤ 1000) :
    Calls Try.prog 9 #[va, vb] w fun e w' => e = .returned (.bool true) ∧ Hid (Chg NoB w w') := by
  obtain ⟨a1, c1, rfl, h1, h2, h3⟩ := ha
  obtain ⟨a2, c2, rfl, g1, g2, g3⟩ := hb
  have H3 := hid h3
  have G3 := hid g3
  unfold maxLen at h2
  clear h3 g3 g2
  go_enter Try.func9, Try.ntmps9
  go_wp2
  go_loopw [5] (fun i wr => ∃ k : Nat, k ≤ l.length ∧ i = .int .i64 k ∧ Hid (Chg NoB w wr)) (fun i _ => l.length - toN i)
  case atStart => exact ⟨0, by omega, rfl, Chg.refl _ _⟩
  case round =>
    obtain ⟨k, hk, rfl, hc⟩ := hrel
    by_cases hlt : k < l.length
    · obtain ⟨x, b, off, v1, v2, hx, rfl, ht, _, hE, _, _⟩ := Ents.at H3.out hc.out k hlt
      obtain ⟨y, b2, off2, v3, v4, hy, rfl, ht2, _, hE2, _, _⟩ := Ents.at G3.out hc.out k hlt
      obtain rfl : x = y := hx.out.symm.trans hy.out
      obtain ⟨c0, q0, q1, q2, q3, q4, q5, q6, q7, q8, q9, q10⟩ := hE.cells
      obtain ⟨d0, r0, r1, r2, r3, r4, r5, r6, r7, r8, r9, r10⟩ := hE2.cells
      have HT := hid (ht.mono hc.out.drew)
      have HT2 := hid (ht2.mono hc.out.drew)
      clear hE hE2 ht ht2
      have hk0 : (0 : Int) ≤ (k : Int) := by omega
      have hk1 : (k : Int) < (l.length : Int) := by omega
      go_upto_region 6 with fail
      refine wp_region_ord 25 (.rd 0 (.rd 1 (.rd 2 (.rd 3 (.rd 4 (.rd 5 (.rd 6 (.rd 7 (.rd 8 (.rd 9 (.rd 10 (.rd 11 (.rd 12 (.rd 13 (.rd 14 (.rd 15 (.rd 16 (.rd 17 (.rd 18 (.rd 19 (.rd 20 (.rd 21 (.one 22 (.rd 23 (.rd 24 (.done)))))))))))))))))))))))))) (Same wr) (by kernel_rfl) (by kernel_rfl) (by kernel_rfl) (by kernel_rfl) (by kernel_rfl) (fun _ _ d _ _ h => by cases d <;> exact h) (Same.of (Chg.refl _ _).drew) (fun hS0 => ?_)
      refine wpOrd_rd rfl rfl (by first | decide | simp) (by assumption) (fun w' hw' K hK => by ((try unfold Same at hw'); (try go_split_ands); go_simp; exact hK)) ?_
      refine wpOrd_rd rfl rfl (by first | decide | simp) (by assumption) (fun w' hw' K hK => by ((try unfold Same at hw'); (try go_split_ands); go_simp; exact hK)) ?_
      refine wpOrd_rd rfl rfl (by first | decide | simp) (by assumption) (fun w' hw' K hK => by ((try unfold Same at hw'); (try go_split_ands); go_simp; exact hK)) ?_
      refine wpOrd_rd rfl rfl (by first | decide | simp) (by assumption) (fun w' hw' K hK => by ((try unfold Same at hw'); (try go_split_ands); go_simp; exact hK)) ?_
      refine wpOrd_rd rfl rfl (by first | decide | simp) (by assumption) (fun w' hw' K hK => by ((try unfold Same at hw'); (try go_split_ands); go_simp; exact hK)) ?_
      refine wpOrd_rd rfl rfl (by first | decide | simp) (by assumption) (fun w' hw' K hK => by ((try unfold Same at hw'); (try go_split_ands); go_simp; exact hK)) ?_
      refine wpOrd_rd rfl rfl (by first | decide | simp) (by assumption) (fun w' hw' K hK => by ((try unfold Same at hw'); (try go_split_ands); go_simp; exact hK)) ?_
      refine wpOrd_rd rfl rfl (by first | decide | simp) (by assumption) (fun w' hw' K hK => by ((try unfold Same at hw'); (try go_split_ands); go_simp; exact hK)) ?_
      refine wpOrd_rd rfl rfl (by first | decide | simp) (by assumption) (fun w' hw' K hK => by ((try unfold Same at hw'); (try go_split_ands); go_simp; exact hK)) ?_
      refine wpOrd_rd rfl rfl (by first | decide | simp) (by assumption) (fun w' hw' K hK => by ((try unfold Same at hw'); (try go_split_ands); go_simp; exact hK)) ?_
      refine wpOrd_rd rfl rfl (by first | decide | simp) (by assumption) (fun w' hw' K hK => by ((try unfold Same at hw'); (try go_split_ands); go_simp; exact hK)) ?_
      refine wpOrd_rd rfl rfl (by first | decide | simp) (by assumption) (fun w' hw' K hK => by ((try unfold Same at hw'); (try go_split_ands); go_simp; exact hK)) ?_
      refine wpOrd_rd rfl rfl (by first | decide | simp) (by assumption) (fun w' hw' K hK => by ((try unfold Same at hw'); (try go_split_ands); go_simp; exact hK)) ?_
      refine wpOrd_rd rfl rfl (by first | decide | simp) (by assumption) (fun w' hw' K hK => by ((try unfold Same at hw'); (try go_split_ands); go_simp; exact hK)) ?_
      refine wpOrd_rd rfl rfl (by first | decide | simp) (by assumption) (fun w' hw' K hK => by ((try unfold Same at hw'); (try go_split_ands); go_simp; exact hK)) ?_
      refine wpOrd_rd rfl rfl (by first | decide | simp) (by assumption) (fun w' hw' K hK => by ((try unfold Same at hw'); (try go_split_ands); go_simp; exact hK)) ?_
      refine wpOrd_rd rfl rfl (by first | decide | simp) (by assumption) (fun w' hw' K hK => by ((try unfold Same at hw'); (try go_split_ands); go_simp; exact hK)) ?_
      refine wpOrd_rd rfl rfl (by first | decide | simp) (by assumption) (fun w' hw' K hK => by ((try unfold Same at hw'); (try go_split_ands); go_simp; exact hK)) ?_
      refine wpOrd_rd rfl rfl (by first | decide | simp) (by assumption) (fun w' hw' K hK => by ((try unfold Same at hw'); (try go_split_ands); go_simp; exact hK)) ?_
      refine wpOrd_rd rfl rfl (by first | decide | simp) (by assumption) (fun w' hw' K hK => by ((try unfold Same at hw'); (try go_split_ands); go_simp; exact hK)) ?_
      refine wpOrd_rd rfl rfl (by first | decide | simp) (by assumption) (fun w' hw' K hK => by ((try unfold Same at hw'); (try go_split_ands); go_simp; exact hK)) ?_
      refine wpOrd_rd rfl rfl (by first | decide | simp) (by assumption) (fun w' hw' K hK => by ((try unfold Same at hw'); (try go_split_ands); go_simp; exact hK)) ?_
      refine wpOrd_do rfl ?_
      (first | refine wpList_plain rfl (fun K hK => ?_) | refine wpList_step (fun K hK => ?_))
      go_simp
      ((with_reducible refine (recSame_lit x.r v1 v2 v3 v4 _ HT.out HT2.out).mono ?_); rintro en w2 ⟨rfl, hc2⟩)
      refine hK _ _ ?_
      clear hK K
      (try dsimp only [Act.put])
      (try simp only [List.setIfInBounds_toArray, List.set_cons_zero, List.set_cons_succ])
      refine wpOrd_done (Same.of ((Chg.refl NoB wr).drew.trans' hc2)) (fun hS1 => ?_)
      refine wpOrd_rd rfl rfl (by first | decide | simp) (by assumption) (fun w' hw' K hK => by ((try unfold Same at hw'); (try go_split_ands); go_simp; exact hK)) ?_
      refine wpOrd_rd rfl rfl (by first | decide | simp) (by assumption) (fun w' hw' K hK => by ((try unfold Same at hw'); (try go_split_ands); go_simp; exact hK)) ?_
      refine wpOrd_nil ?_
      have HC2 := hid ((hc.out.drew).trans' hc2)
      clear c0 q0 q1 q2 q3 q4 q5 q6 q7 q8 q9 q10 d0 r0 r1 r2 r3 r4 r5 r6 r7 r8 r9 r10 hS0 hS1 hc2
      go_wp2_with fail
      go_roundw
      case rel => exact ⟨k + 1, by omega, by go_num, HC2⟩
      case measure => simp [toN]; omega
    · obtain rfl : k = l.length := by omega
      go_wp2_with fail
      go_ret
      exact ⟨rfl, hc⟩
end Go.Proofs.Ytobmaipjbepphaa
