import Derived.Test.YtmikbjlgcndmeaaTr1
namespace Go.Proofs.Ytmikbjlgcndmeaa
open Go.RowKit Go.ChangeMaps Go.MapKept
set_option linter.unusedVariables false
set_option linter.unusedSimpArgs false
set_option linter.unnecessarySimpa false
set_option maxHeartbeats 8000000

theorem fst_set {xs : List (TxS × Value)} {i : Nat} {x' : TxS × Value} : (xs.set i x').map (·.1) = (xs.map (·.1)).set i x'.1 := by rw [List.map_set]
/-- The one that is found is turned. -/
theorem tUpd_set {L : TTab} (hs : L.Pairwise (fun a b => a.txn < b.txn)) {i : Nat} {s s' : TxS} (hi : L[i]? = some s) : tUpd L s.txn s' = L.set i s' := by
  unfold tUpd
  apply List.ext_getElem?
  intro j
  rw [List.getElem?_map, List.getElem?_set]
  have hil := (List.getElem?_eq_some_iff.1 hi).1
  have hie := (List.getElem?_eq_some_iff.1 hi).2
  by_cases hij : i = j
  · subst hij
    rw [if_pos rfl, if_pos hil, hi]; simp
  · rw [if_neg hij]
    cases hj : L[j]? with
    | none => rfl
    | some t =>
      have hjl := (List.getElem?_eq_some_iff.1 hj).1
      have hje := (List.getElem?_eq_some_iff.1 hj).2
      have hne : (t.txn == s.txn) = false := by
        rw [← hie, ← hje]
        rcases Nat.lt_or_gt_of_ne hij with h | h
        · have := List.pairwise_iff_getElem.1 hs i j hil hjl h; simp; omega
        · have := List.pairwise_iff_getElem.1 hs j i hjl hil h; simp; omega
      show some (if (t.txn == s.txn) = true then s' else t) = some t
      rw [hne]; rfl
theorem RtAt.srt' {w0 : Rsv} {w : World} {p : Nat} {lv : Value} {xs : List (TxS × Value)} (h : RtAt w0 w p lv xs) : (xs.map (·.1)).Pairwise (fun a b => a.txn < b.txn) := by
  rw [List.pairwise_map]; exact h.srt

set_option maxRecDepth 100000 in
theorem rLog_calls (w0 : Rsv) (w : World) (p : Nat) (L : TTab) (n a : Int) (h : RT w0 w p L) (res : Int) (L' : TTab) (hres : Hid ((res, L') = tLog L n a)) :
    Calls Try.prog 16 #[.pointer (some ⟨p, 0, none⟩), .int .i64 n, .int .i64 a] w fun e w' => e = .returned (.int .i64 res) ∧ Hid (RT w0 w' p L') := by
  obtain ⟨lv, xs, rfl, h⟩ := h
  obtain ⟨ix, hix⟩ := named (rIdx (xs.map (·.1)) n)
  have HH := hid h
  have hr := hres.out
  unfold tLog at hr
  rcases rIdx_cases (xs.map (·.1)) n with ⟨h1, h2⟩ | ⟨i, s, h1, h2, h3, h4⟩
  · rw [h2] at hr
    cases hr
    have hix2 : ix = -1 := by rw [hix.out, h1]
    clear h h1 h2 hres
    subst hix2
    go_enter Try.func16, Try.ntmps16
    go_wp2_with (go_at_call 30; refine (rFind_calls w0 _ p lv xs n HH.out _ hix).mono ?_; rintro e w1 ⟨rfl, hc1⟩)
    go_ret
    exact ⟨rfl, hid ⟨lv, xs, rfl, HH.out.keep hc1⟩⟩
  · rw [h4] at hr
    rw [h1] at hix
    have hixe := hix.out
    subst hixe
    rw [List.getElem?_map] at h2
    obtain ⟨⟨s', mv⟩, hx, rfl⟩ := Option.map_eq_some_iff.1 h2
    have HX := hid hx
    obtain ⟨g, cap, rfl, hcap, c0, c1, c2, c3, c4⟩ := h.cells hx
    have hil := (List.getElem?_eq_some_iff.1 hx).1
    have HP := hid h.cell
    have hi0 : (0 : Int) ≤ (i : Int) := by omega
    have hi1 : (i : Int) < (xs.length : Int) := by omega
    have hin : ¬ (i : Int) < 0 := by omega
    have HIX : Hid ((i : Int) = rIdx (xs.map (·.1)) n) := hid h1.symm
    simp only at hr h3
    clear c0 c1 c3 c4 h h1 h2 h4 hx hres hix
    by_cases ha : a ≤ s'.last
    · rw [if_pos ha] at hr
      cases hr
      go_enter Try.func16, Try.ntmps16
      go_wp2_with (go_at_call 30; refine (rFind_calls w0 _ p _ xs n HH.out _ HIX).mono ?_; rintro e w1 ⟨rfl, hc1⟩; have c2 := hc1.cell c2 nob; have hp1 := hc1.cell HP.out nob)
      go_ret
      exact ⟨rfl, hid ⟨_, xs, rfl, HH.out.keep hc1⟩⟩
    · rw [if_neg ha] at hr
      obtain ⟨s1, hs1⟩ := named ({ s' with last := a } : TxS)
      obtain ⟨s2, hs2⟩ := named ({ s1 with first := a } : TxS)
      have HS1 : Hid (xs.length = xs.length) := rfl
      have hmk := hid (HH.out.mks _ (List.mem_of_getElem? HX.out))
      have hft := hid (HH.out.fit _ (List.mem_of_getElem? HX.out))
      have hgo : Hid (∀ {w' : World}, RtAt w0 w' p (.slice (some ⟨g, 0, none⟩) xs.length cap) (xs.set i (s1, mv)) → MkK w0 p (.slice (some ⟨g, 0, none⟩) xs.length cap) w' (s1, mv)) := hid (fun h => h.mks _ (List.mem_of_getElem? (show (xs.set i (s1, mv))[i]? = some (s1, mv) by rw [List.getElem?_set, if_pos rfl, if_pos hil])))
      obtain ⟨fb, hfb⟩ := named (s'.first == 0)
      have hfb' := hfb.out.symm
      go_enter Try.func16, Try.ntmps16
      go_upto_region 7 with (first
        | (go_at_call 30; refine (rFind_calls w0 _ p _ xs n HH.out _ HIX).mono ?_; rintro e w1 ⟨rfl, hc1⟩; have c2 := hc1.cell c2 nob; have hp1 := hc1.cell HP.out nob; have H1 := hid (HH.out.keep hc1); have hmk1 := hid (hmk.out.keep hc1 (fun k e => e.elim)))
        | ((fail_if_success (fail_if_success (with_reducible change wpList _ _ _ (Oper.mk _ (.store 3 _ _) _ _ _ _ :: _) _ _))); refine step_setT rfl rfl H1.out i 2 (s1, mv) HX.out (by omega) rfl rfl rfl rfl (by rw [hs1.out]; rfl) (by rw [hs1.out]) ⟨by rw [hs1.out]; exact hmk1.out.rd, hmk1.out.out⟩ (by rw [hs1.out]; exact hft.out) (by kernel_rfl) ?_; intro w2 h2))
      have hx2 : (xs.set i (s1, mv))[i]? = some (s1, mv) := by rw [List.getElem?_set, if_pos rfl, if_pos hil]
      have hp2 := h2.cell
      obtain ⟨_, _, ee, _, d0, d1, d2, d3, d4⟩ := h2.cells hx2
      simp only [List.length_set] at ee
      cases ee
      have hf1 : s1.first = s'.first := by rw [hs1.out]
      simp only [hf1] at d1
      have H2 := hid h2
      have HX2 := hid hx2
      have hmk2 := hid (hgo.out h2)
      clear d0 d2 d3 d4 h2 hx2 hf1 hp1 c2 hc1
      cases fb
      · have hr2 : res = 0 ∧ L' = (xs.set i (s1, mv)).map (·.1) := by
          have h0 : ¬ s'.first = 0 := by simpa using hfb'
          rw [if_neg h0] at hr
          cases hr
          refine ⟨rfl, ?_⟩
          rw [fst_set, ← h3, hs1.out]
          exact tUpd_set HH.out.srt' (by rw [List.getElem?_map, HX.out]; rfl)
        obtain ⟨rfl, hL⟩ := hr2
        go_wp2_with fail
        go_ret
        exact ⟨rfl, hid ⟨_, _, hL.symm, H2.out⟩⟩
      · have hr2 : res = 0 ∧ L' = ((xs.set i (s1, mv)).set i (s2, mv)).map (·.1) := by
          have h0 : s'.first = 0 := by simpa using hfb'
          rw [if_pos h0] at hr
          cases hr
          refine ⟨rfl, ?_⟩
          rw [fst_set, fst_set, List.set_set, ← h3, hs2.out, hs1.out]
          exact tUpd_set HH.out.srt' (by rw [List.getElem?_map, HX.out]; rfl)
        obtain ⟨rfl, hL⟩ := hr2
        go_wp2_with ((fail_if_success (fail_if_success (with_reducible change wpList _ _ _ (Oper.mk _ (.store 3 _ _) _ _ _ _ :: _) _ _))); refine step_setT rfl rfl H2.out i 1 (s2, mv) HX2.out (by omega) rfl rfl rfl rfl (by rw [hs2.out]; rfl) (by rw [hs2.out]) ⟨by rw [hs2.out]; exact hmk2.out.rd, hmk2.out.out⟩ (by rw [hs2.out, hs1.out]; exact hft.out) (by kernel_rfl) ?_; intro w3 h3)
        go_ret
        exact ⟨rfl, hid ⟨_, _, hL.symm, h3⟩⟩
end Go.Proofs.Ytmikbjlgcndmeaa
