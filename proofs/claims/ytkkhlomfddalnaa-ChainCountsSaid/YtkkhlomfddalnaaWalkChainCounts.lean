import Derived.Test.YtkkhlomfddalnaaWalkChainWalks
namespace Go.Proofs.Ytkkhlomfddalnaa
open Go.RowKit Go.ChangeMaps
set_option linter.unusedVariables false

set_option maxRecDepth 100000 in
set_option maxHeartbeats 8000000 in
theorem chainCounts_walk (w : World) (v : Value) (l : List Ent) (hv : Ents w v l) (last : Int) (_h2 : (Lit.int .i64 last).wf = true) :
    Calls Try.prog 7 #[v, .int .i64 last] w fun e w' => e = .returned (.bool true) ∧ Chg NoB w w' := by
  obtain ⟨f, hf⟩ := named (entsFew l)
  have HV := hid hv
  have hform : ∃ a n c, v = .slice a n c := by obtain ⟨a, c, rfl, _⟩ := hv; exact ⟨_, _, _, rfl⟩
  obtain ⟨a, n, c, rfl⟩ := hform
  clear hv _h2
  cases f
  · go_enter Try.func7, Try.ntmps7
    go_wp2_with (first
      | (go_at_call 8; refine (awake w).mono ?_; rintro e w1 ⟨rfl, c1⟩)
      | (go_at_call 9; refine (entsFew_calls _ l _ (HV.out.mono c1) _ hf).mono ?_; rintro e w2 ⟨rfl, c2⟩))
    refine (awake w2).mono ?_
    rintro e w3 ⟨rfl, c3⟩
    go_wp2
    go_ret
    exact ⟨rfl, c1.trans' (c2.trans' c3)⟩
  · have hl := few_len hf.out
    go_enter Try.func7, Try.ntmps7
    go_wp2_with (first
      | (go_at_call 8; refine (awake w).mono ?_; rintro e w1 ⟨rfl, c1⟩)
      | (go_at_call 9; refine (entsFew_calls _ l _ (HV.out.mono c1) _ hf).mono ?_; rintro e w2 ⟨rfl, c2⟩))
    have C2 := c1.trans' c2
    clear c1 c2
    obtain ⟨⟨xs, ex⟩, hx⟩ := named (chainOf l 1 last)
    obtain ⟨⟨ms, em⟩, hm⟩ := named (standOf l 1 last)
    obtain ⟨⟨us, eu⟩, hu⟩ := named (undoOf l 1 last 0)
    have hcnt : Hid (em = 0 → eu = 0 → us.length ≤ ms.length) := by
      rintro rfl rfl; exact counts_plain hm.out.symm hu.out.symm
    have hfall : Hid (∀ (i : Nat) (a b : Int), xs[i]? = some a → xs[i + 1]? = some b → b < a) := by
      intro i a b h1 h2
      have := @chain_falls l 1 last i a b
      rw [← hx.out] at this
      exact this h1 h2
    have hnil : Hid (ex ≠ 0 → xs = []) := by
      intro h
      have := @orErr_nil Int l (walk l 1 goAll false last) (fun x => x.map (·.1))
      have e : chainOf l 1 last = (xs, ex) := hx.out.symm
      unfold chainOf at e
      rw [e] at this
      exact this h
    refine (left_calls _ l 1 last _ (HV.out.mono C2) hl).mono ?_
    rintro e w3 ⟨rfl, c3⟩
    rw [leftOf_eq, ← hm.out]
    have C3 := C2.trans' c3
    clear c3 C2
    go_wp2_with fail
    refine (undo_calls _ l 1 last 0 _ (HV.out.mono C3) hl).mono ?_
    rintro e w4 ⟨v4, rfl, ho4, c4⟩
    rw [← hu.out] at ho4 ⊢
    obtain ⟨a4, k4, rfl⟩ := ownsForm ho4
    have C4 := C3.trans' c4
    clear c4 C3 ho4
    go_wp2_with fail
    refine (chain_calls _ l 1 last _ (HV.out.mono C4) hl).mono ?_
    rintro e w5 ⟨v5, rfl, ho5, c5⟩
    rw [← hx.out] at ho5 ⊢
    have R5 := Rd.ints_of ho5
    have C5 := C4.trans' c5
    clear c5 C4 ho5
    obtain ⟨a5, k5, rfl, q5, q5', R5⟩ := R5
    unfold maxLen at q5'
    have HR5 := hid R5
    have HC5 := hid C5
    clear R5 C5
    obtain ⟨t, ht⟩ := named ((em == 0) && (eu == 0))
    have key : ∀ (A : Prop), ((em == 0) = false ∨ ((em == 0) = true ∧ (eu == 0) = false) ∨ ((em == 0) = true ∧ (eu == 0) = true ∧ ((us.length : Nat) : Int) ≤ (ms.length : Nat)) → A) → A := by
      intro A hA
      apply hA
      cases h1 : (em == 0)
      · exact .inl rfl
      · cases h2 : (eu == 0)
        · exact .inr (.inl ⟨rfl, rfl⟩)
        · refine .inr (.inr ⟨rfl, rfl, ?_⟩)
          have := hcnt.out (by simpa using h1) (by simpa using h2)
          omega
    refine key _ (fun hcase => ?_)
    clear key
    rcases hcase with t1 | ⟨t1, t2⟩ | ⟨t1, t2, t3⟩
    all_goals
      go_wp2_with fail
      all_goals
        go_loopw [56] (fun i wr => ∃ k : Nat, k ≤ xs.length ∧ i = .int .i64 k ∧ Hid (Chg NoB w5 wr)) (fun i _ => xs.length - (intOf i).toNat)
        case atStart => exact ⟨0, by omega, rfl, Chg.refl _ _⟩
        case round =>
          obtain ⟨k, hk, rfl, hc⟩ := hrel
          by_cases hlt : k < xs.length
          · obtain ⟨b, off, rfl, g0⟩ := Rd.int_at HR5.out k hlt
            replace g0 := hc.out.cell g0 (fun e => e)
            cases k with
            | zero =>
              go_wp2_with fail
              go_quiet (fail)
              go_wp2_with fail
              go_roundw
              case rel => exact ⟨1, by omega, by go_num, hc.out.drewN _⟩
              case measure => simp [intOf]; omega
            | succ k =>
              obtain ⟨b', off', e', g1⟩ := Rd.int_at HR5.out k (by omega)
              cases e'
              replace g1 := hc.out.cell g1 (fun e => e)
              have hwr : IntKind.i64.wrap (k : Int) = (k : Int) := by rw [IntKind.wrap_i64]; omega
              obtain ⟨x, hx1⟩ := named (xs[k + 1])
              obtain ⟨y, hy1⟩ := named (xs[k]'(by omega))
              rw [← hx1.out] at g0
              rw [← hy1.out] at g1
              have hxy : x < y := hfall.out k y x (by rw [hy1.out]; exact List.getElem?_eq_getElem _) (by rw [hx1.out]; exact List.getElem?_eq_getElem _)
              go_wp2_with fail
              go_quiet (fail)
              go_wp2_with fail
              go_roundw
              case rel => exact ⟨k + 2, by omega, by go_num, hc.out.drewN _⟩
              case measure => simp [intOf]; omega
          · obtain rfl : k = xs.length := by omega
            cases he : (ex == 0)
            · have h0 := hnil.out (by simpa using he)
              subst h0
              go_wp2_with fail
              go_ret
              exact ⟨rfl, HC5.out.trans' hc.out⟩
            · go_wp2_with fail
              go_ret
              exact ⟨rfl, HC5.out.trans' hc.out⟩
end Go.Proofs.Ytkkhlomfddalnaa
