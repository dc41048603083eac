import Derived.Test.YtmikbjlgcndmeaaTr2
namespace Go.Proofs.Ytmikbjlgcndmeaa
open Go.RowKit Go.ChangeMaps Go.MapKept
set_option linter.unusedVariables false
set_option linter.unusedSimpArgs false
set_option linter.unnecessarySimpa false
set_option maxHeartbeats 8000000

set_option maxRecDepth 100000 in
theorem rAdd_calls (w0 : Rsv) (w : World) (p : Nat) (L : TTab) (n d : Int) (h : RT w0 w p L) (res : Int) (L' : TTab) (hres : Hid ((res, L') = tLeft L n d)) :
    Calls Try.prog 17 #[.pointer (some ⟨p, 0, none⟩), .int .i64 n, .int .i64 d] w fun e w' => e = .returned (.int .i64 res) ∧ Hid (RT w0 w' p L') := by
  obtain ⟨lv, xs, rfl, h⟩ := h
  obtain ⟨ix, hix⟩ := named (rIdx (xs.map (·.1)) n)
  have HH := hid h
  have hr := hres.out
  unfold tLeft at hr
  rcases rIdx_cases (xs.map (·.1)) n with ⟨h1, h2⟩ | ⟨i, s, h1, h2, h3, h4⟩
  · rw [h2] at hr
    cases hr
    have hix2 : ix = -1 := by rw [hix.out, h1]
    clear h h1 h2 hres
    subst hix2
    go_enter Try.func17, Try.ntmps17
    go_wp2_with (go_at_call 30; refine (rFind_calls w0 _ p lv xs n HH.out _ hix).mono ?_; rintro e w1 ⟨rfl, hc1⟩)
    go_ret
    exact ⟨rfl, hid ⟨lv, xs, rfl, HH.out.keep hc1⟩⟩
  · rw [h4] at hr
    rw [h1] at hix
    have hixe := hix.out
    subst hixe
    rw [List.getElem?_map] at h2
    obtain ⟨⟨s', mv⟩, hx, rfl⟩ := Option.map_eq_some_iff.1 h2
    have HX := hid hx
    obtain ⟨g, cap, rfl, hcap, c0, c1, c2, c3, c4⟩ := h.cells hx
    have hil := (List.getElem?_eq_some_iff.1 hx).1
    have HP := hid h.cell
    have hi0 : (0 : Int) ≤ (i : Int) := by omega
    have hi1 : (i : Int) < (xs.length : Int) := by omega
    have hin : ¬ (i : Int) < 0 := by omega
    have HIX : Hid ((i : Int) = rIdx (xs.map (·.1)) n) := hid h1.symm
    have hmk := hid (h.mks _ (List.mem_of_getElem? hx))
    have hft := hid (h.fit _ (List.mem_of_getElem? hx))
    simp only at hr h3
    clear c0 c1 c2 c4 h h1 h2 h4 hx hres hix
    have hcs : d < -1048576 ∨ (¬ d < -1048576 ∧ 1048576 < d) ∨ (¬ d < -1048576 ∧ ¬ 1048576 < d ∧ s'.left + d < 0) ∨ (¬ d < -1048576 ∧ ¬ 1048576 < d ∧ ¬ s'.left + d < 0 ∧ 1048576 < s'.left + d) ∨ (¬ d < -1048576 ∧ ¬ 1048576 < d ∧ ¬ s'.left + d < 0 ∧ ¬ 1048576 < s'.left + d) := by omega
    have hlw : 0 ≤ s'.left ∧ s'.left ≤ 1048576 := ⟨hft.out.1, hft.out.2.1⟩
    obtain ⟨lf, hlf⟩ := named s'.left
    rw [← hlf.out] at c3 hr hcs hlw
    rcases hcs with q1 | ⟨q1, q2⟩ | ⟨q1, q2, q3⟩ | ⟨q1, q2, q3, q4⟩ | ⟨q1, q2, q3, q4⟩
    rotate_left 4
    · rw [if_neg (by omega)] at hr
      have hw : IntKind.i64.wrap (lf + d) = lf + d := by rw [IntKind.wrap_i64]; omega
      obtain ⟨s1, hs1⟩ := named ({ s' with left := lf + d } : TxS)
      have hr2 : res = 0 ∧ L' = (xs.set i (s1, mv)).map (·.1) := by
        cases hr
        refine ⟨rfl, ?_⟩
        rw [fst_set, ← h3, hs1.out]
        exact tUpd_set HH.out.srt' (by rw [List.getElem?_map, HX.out]; rfl)
      obtain ⟨rfl, hL⟩ := hr2
      go_enter Try.func17, Try.ntmps17
      go_wp2_with (first
        | (go_at_call 30; refine (rFind_calls w0 _ p _ xs n HH.out _ HIX).mono ?_; rintro e w1 ⟨rfl, hc1⟩; have c3 := hc1.cell c3 nob; have hp1 := hc1.cell HP.out nob; have H1 := hid (HH.out.keep hc1); have hmk1 := hid (hmk.out.keep hc1 (fun k e => e.elim)))
        | ((fail_if_success (fail_if_success (with_reducible change wpList _ _ _ (Oper.mk _ (.store 3 _ _) _ _ _ _ :: _) _ _))); refine step_setT rfl rfl H1.out i 3 (s1, mv) HX.out (by omega) rfl rfl rfl rfl (by rw [hs1.out]; rfl) (by rw [hs1.out]) ⟨by rw [hs1.out]; exact hmk1.out.rd, hmk1.out.out⟩ (by rw [hs1.out]; exact ⟨by simp only; omega, by simp only; omega, hft.out.2.2⟩) (by kernel_rfl) ?_; intro w2 h2))
      go_ret
      exact ⟨rfl, hid ⟨_, _, hL.symm, h2⟩⟩
    all_goals
      have hr2 : res = 1 ∧ L' = xs.map (·.1) := by
        rw [if_pos (by omega)] at hr
        cases hr
        exact ⟨rfl, rfl⟩
      obtain ⟨rfl, hL⟩ := hr2
      first
        | have hw : IntKind.i64.wrap (lf + d) = lf + d := by rw [IntKind.wrap_i64]; omega
        | skip
      clear hr
      go_enter Try.func17, Try.ntmps17
      go_wp2_with (go_at_call 30; refine (rFind_calls w0 _ p _ xs n HH.out _ HIX).mono ?_; rintro e w1 ⟨rfl, hc1⟩; have c3 := hc1.cell c3 nob; have hp1 := hc1.cell HP.out nob; have H1 := hid (HH.out.keep hc1); have hmk1 := hid (hmk.out.keep hc1 (fun k e => e.elim)))
      go_ret
      exact ⟨rfl, hid ⟨_, xs, hL.symm, HH.out.keep hc1⟩⟩

end Go.Proofs.Ytmikbjlgcndmeaa
