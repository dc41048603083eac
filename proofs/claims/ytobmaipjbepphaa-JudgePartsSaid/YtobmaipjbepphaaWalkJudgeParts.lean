import Derived.Test.YtobmaipjbepphaaWalkJudgeFew
import Derived.Test.YtobmaipjbepphaaSameAl
namespace Go.Proofs.Ytobmaipjbepphaa
open Go.RowKit Go.ChangeMaps Go.MapKept
attribute [local go_sem] Go.Oper.rdK
set_option linter.unusedVariables false
set_option maxHeartbeats 8000000

/-- The first ones of a list. -/
theorem Ents.take {w : World} {a : Option Addr} {c : Nat} {l : List Ent} (h : Ents w (.slice a l.length c) l) (n : Nat) (hn : n ≤ l.length) : Ents w (.slice a n c) (l.take n) := by
  obtain ⟨a', c', e, h1, h2, h3⟩ := h
  cases e
  refine ⟨a, c, by rw [List.length_take, Nat.min_eq_left hn], by rw [List.length_take]; omega, by rw [List.length_take]; omega, fun i x hi => ?_⟩
  rw [List.getElem?_take] at hi
  split at hi
  · exact h3 i x hi
  · cases hi

theorem u64_nonneg (x : Int) : 0 ≤ IntKind.u64.wrap x := by
  simp only [IntKind.wrap, IntKind.signed, IntKind.bits, Bool.false_eq_true, if_false]
  exact Int.emod_nonneg _ (by decide)
theorem uMod (x m : Int) (h0 : 0 < m) (hn : m ≤ 1001) : ∃ M : Nat, wrap64 ((IntKind.u64.wrap x).tmod m) = (M : Int) ∧ (M : Int) < m := by
  rw [Int.tmod_eq_emod_of_nonneg (u64_nonneg x)]
  have h1 := Int.emod_nonneg (IntKind.u64.wrap x) (show m ≠ 0 by omega)
  have h2 := Int.emod_lt_of_pos (IntKind.u64.wrap x) h0
  rw [IntWalk.wrap64_in _ ⟨by omega, by omega⟩]
  exact ⟨((IntKind.u64.wrap x) % m).toNat, by omega, by omega⟩
set_option maxRecDepth 100000 in
theorem judgeParts_walk (w : World) (v : Value) (l : List Ent) (hv : Ents w v l) (q : Int) (wq : (Lit.int .i64 q).wf = true) :
    Calls Try.prog 4 #[v, .int .i64 q] w fun e w' => e = .returned (.bool true) ∧ Chg NoB w w' := by
  obtain ⟨f, hf⟩ := named (entsFew l)
  have HV := hid hv
  obtain ⟨a, c, rfl, q1, q2, h3⟩ := hv
  unfold maxLen at q2
  have hqf := fits_of wq
  unfold fits at hqf
  clear h3 wq
  cases f
  · go_enter Try.func4, Try.ntmps4
    go_wp2_with (first
      | (go_at_call 6; refine (awake w).mono ?_; rintro e w1 ⟨rfl, c1⟩)
      | (go_at_call 7; refine (entsFew_calls _ l _ (HV.out.mono c1) _ hf).mono ?_; rintro e w2 ⟨rfl, c2⟩))
    refine (awake w2).mono ?_
    rintro e w3 ⟨rfl, c3⟩
    go_wp2
    go_ret
    exact ⟨rfl, c1.trans' (c2.trans' c3)⟩
  have h200 := few_200 hf.out
  have hokk := hid (okk_of HV.out hf.out)
  go_enter Try.func4, Try.ntmps4
  go_upto_region 3 with (first
    | (go_at_call 6; refine (awake w).mono ?_; rintro e w1 ⟨rfl, c1⟩)
    | (go_at_call 7; refine (entsFew_calls _ l _ (HV.out.mono c1) _ hf).mono ?_; rintro e w2 ⟨rfl, c2⟩))
  have HC := hid (c1.trans' c2)
  clear c1 c2
  go_cut [1] (fun s1 wx => ∃ m : Nat, m ≤ l.length ∧ s1 = .int .i64 m ∧ Hid (Chg NoB w wx))
  case first =>
    go_wp2_with fail
    go_meet
    obtain ⟨M, h1, h2⟩ := uMod q ((l.length : Int) + 1) (by omega) (by omega)
    exact ⟨M, by omega, by rw [h1], HC⟩
  case rest =>
    obtain ⟨m, hm, rfl, HC2⟩ := hcut
    clear HC
    obtain ⟨O1, hO1⟩ := named (jFaults jNew l)
    obtain ⟨O2, hO2⟩ := named (jFaults jNew (l.take m))
    have happ : Hid (O1 = O2 ++ jFaults (jRun jNew (l.take m)) (l.drop m)) := hid (by rw [hO1.out, hO2.out, ← jFaults_append, List.take_append_drop])
    have hl1 : O1.length ≤ 200 := by rw [hO1.out]; exact Nat.le_trans (jFaults_len _ _) h200
    have hl2 : O2.length ≤ O1.length := by rw [happ.out]; simp
    have hl3 : O1.length - O2.length ≤ l.length - m := by
      rw [happ.out]
      have := jFaults_len (jRun jNew (l.take m)) (l.drop m)
      simp at this ⊢
      omega
    have htk : Hid (O1.take O2.length = O2) := hid (by rw [happ.out]; simp)
    have hm0 : (0 : Int) ≤ (m : Int) := by omega
    have hm1 : (m : Int) ≤ (c : Int) := by omega
    have hokk2 : Hid (∀ x ∈ l.take m, x.r.okk) := hid (fun x hx => hokk.out x (List.mem_of_mem_take hx))
    have hlm : (l.take m).length ≤ 1000 := by rw [List.length_take]; omega
    have HV2 := hid (HV.out.take m hm)
    go_upto_region 4 with fail
    refine wp_region_ord 8 (.rd 0 (.rd 2 (.rd 3 (.rd 4 (.one 1 (.one 5 (.rd 6 (.rd 7 (.done))))))))) (Same wc) (by kernel_rfl) (by kernel_rfl) (by kernel_rfl) (by kernel_rfl) (by kernel_rfl) (fun _ _ d _ _ h => by cases d <;> exact h) (Same.of (Chg.refl _ _).drew) (fun hS0 => ?_)
    refine wpOrd_rd rfl rfl (by first | decide | simp) (by assumption) (fun w' hw' K hK => by ((try unfold Same at hw'); (try go_split_ands); go_simp; exact hK)) ?_
    refine wpOrd_rd rfl rfl (by first | decide | simp) (by assumption) (fun w' hw' K hK => by ((try unfold Same at hw'); (try go_split_ands); go_simp; exact hK)) ?_
    refine wpOrd_rd rfl rfl (by first | decide | simp) (by assumption) (fun w' hw' K hK => by ((try unfold Same at hw'); (try go_split_ands); go_simp; exact hK)) ?_
    refine wpOrd_rd rfl rfl (by first | decide | simp) (by assumption) (fun w' hw' K hK => by ((try unfold Same at hw'); (try go_split_ands); go_simp; exact hK)) ?_
    refine wpOrd_do rfl ?_
    (first | refine wpList_plain rfl (fun K hK => ?_) | refine wpList_step (fun K hK => ?_))
    go_simp
    ((with_reducible refine (faults_calls _ l _ (HV.out.mono (HC2.out.drew)) (by omega) hokk.out O1 hO1).mono ?_); rintro en w3 ⟨vo, rfl, ho3, c3⟩)
    refine hK _ _ ?_
    clear hK K
    (try dsimp only [Act.put])
    (try simp only [List.setIfInBounds_toArray, List.set_cons_zero, List.set_cons_succ])
    refine wpOrd_done (Same.of ((Chg.refl NoB wc).drew.trans' c3.out)) (fun hS1 => ?_)
    refine wpOrd_do rfl ?_
    (first | refine wpList_plain rfl (fun K hK => ?_) | refine wpList_step (fun K hK => ?_))
    go_simp
    ((with_reducible refine (faults_calls _ (l.take m) _ (HV2.out.mono ((HC2.out.drew).trans' c3.out)) hlm hokk2.out O2 hO2).mono ?_); rintro en w4 ⟨vo2, rfl, ho4, c4⟩)
    refine hK _ _ ?_
    clear hK K
    (try dsimp only [Act.put])
    (try simp only [List.setIfInBounds_toArray, List.set_cons_zero, List.set_cons_succ])
    refine wpOrd_done (Same.of (((Chg.refl NoB wc).drew.trans' c3.out).trans' c4.out)) (fun hS2 => ?_)
    refine wpOrd_rd rfl rfl (by first | decide | simp) (by assumption) (fun w' hw' K hK => by ((try unfold Same at hw'); (try go_split_ands); go_simp; exact hK)) ?_
    refine wpOrd_rd rfl rfl (by first | decide | simp) (by assumption) (fun w' hw' K hK => by ((try unfold Same at hw'); (try go_split_ands); go_simp; exact hK)) ?_
    refine wpOrd_nil ?_
    obtain ⟨ao, co, rfl⟩ := ho3.out.form
    obtain ⟨ao2, co2, rfl⟩ := ho4.out.form
    have HE1 := hid ((ho3.out.keep0 c4.out).ents)
    have HE2 := hid ho4.out.ents
    have HE3 : Hid (Ents w4 (.slice ao O2.length co) O2) := hid (by have := HE1.out.take O2.length hl2; rwa [htk.out] at this)
    have HC4 := hid (((HC2.out.drew).trans' c3.out).trans' c4.out)
    have hco : O1.length ≤ co := by
      obtain ⟨a', c', e, h1, _⟩ := HE1.out
      cases e; exact h1
    have g1 : (O2.length : Int) ≤ (O1.length : Int) := by omega
    have g2 : (O1.length : Int) - (O2.length : Int) ≤ (l.length : Int) - (m : Int) := by omega
    clear ho3 ho4 c3 c4 hS0 hS1 hS2
    go_wp2_with (go_at_call 9; refine (sameAll _ _ O2 _ HE2.out HE3.out (by omega)).mono ?_; rintro en w5 ⟨rfl, c5⟩)
    go_ret
    exact ⟨rfl, HC4.out.trans' c5.out⟩
end Go.Proofs.Ytobmaipjbepphaa
