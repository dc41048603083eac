import Derived.Test.YtekjchphlphecaaWalkStandbyNil
import Derived.Test.YtekjchphlphecaaSb25
namespace Go.Proofs.Ytekjchphlphecaa
open Go.RowKit Go.ChangeMaps Go.MapKept
set_option linter.unusedVariables false
set_option linter.unusedSimpArgs false
set_option linter.unnecessarySimpa false
set_option maxHeartbeats 8000000

theorem pagesN (a0 : Int) : ∃ n : Nat, wrap64 (1 + wrap64 ((IntKind.u64.wrap a0).tmod 8)) = (n : Int) ∧ 1 ≤ n ∧ n ≤ 8 := by
  obtain ⟨M, hM, hlt⟩ := uMod a0 8 (by omega) (by omega)
  refine ⟨M + 1, ?_, by omega, by omega⟩
  rw [hM, w64_small _ (by omega) (by omega)]
  omega
theorem FdI.chg0 {w0 w wr : World} {p g rl : Nat} {lv lv' : Value} {s s0 : SS} (h : FdI w0 w wr p g rl lv lv' s) (h0 : StAt w0 w p g rl lv s0) (hA : Chg NoB w0 w) : Chg NoB w0 wr := hA.trans h.chg (fun k hk => .inr (h0.fp k hk))

set_option maxRecDepth 100000 in
theorem standbyLags_walk (w : World) (a0 : Int) (wa0 : (Lit.int .i64 a0).wf = true) (vf : Value) (F : List Ent) (hvf : Ents w vf F) (vt : Value) (T : List Ent) (hvt : Ents w vt T) :
    Calls Try.prog 6 #[.int .i64 a0, vf, vt] w fun e w' => e = .returned (.bool true) ∧ Chg NoB w w' := by
  have HVF := hid hvf
  have HVT := hid hvt
  clear hvf hvt
  obtain ⟨n, hn, h1, h8⟩ := pagesN a0
  obtain ⟨f1, hf1⟩ := named (entsFew F)
  obtain ⟨f2, hf2⟩ := named (entsFew T)
  obtain ⟨ri, hri⟩ := named (risesB T)
  have HN := hid hn
  clear hn
  go_enter Try.func6, Try.ntmps6
  go_upto_region 2 with fail
  rw [HN.out]
  go_upto_region 3 with (go_at_call 7; refine (new_ok n h1 h8 _).mono ?_; rintro e w1 ⟨p, g, rl, rfl, hS, hc⟩)
  by_cases hall : f1 = true ∧ f2 = true ∧ ri = true
  · obtain ⟨rfl, rfl, rfl⟩ := hall
    have hF2 := few_200 hf1.out
    have hT2 := few_200 hf2.out
    have hokF := hid (okk_of HVF.out hf1.out)
    have hokT := hid (okk_of HVT.out hf2.out)
    go_upto_region 5 with (first
      | (go_at_call 8; refine (awake _).mono ?_; rintro e w2 ⟨rfl, c2⟩)
      | (go_at_call 9; with_reducible refine (entsFew_calls vf F _ (HVF.out.mono (hc.out.trans' c2)) _ hf1).mono ?_; rintro e w3 ⟨rfl, c3⟩)
      | (go_at_call 9; with_reducible refine (entsFew_calls vt T _ (HVT.out.mono (hc.out.trans' (c2.trans' c3))) _ hf2).mono ?_; rintro e w4 ⟨rfl, c4⟩)
      | (go_at_call 23; refine (rises_calls vt T _ (HVT.out.mono (hc.out.trans' (c2.trans' (c3.trans' c4)))) _ hri).mono ?_; rintro e w5 ⟨rfl, q9, rfl⟩))
    have HC := hid (hc.out.trans' (c2.trans' (c3.trans' (c4.drewN q9))))
    have hS5 := hid (hS.out.keep0 (c2.trans' (c3.trans' (c4.drewN q9))))
    obtain ⟨⟨n1, e1, s1⟩, hs1⟩ := named (sFeed (sNew n) F)
    obtain ⟨⟨n2, e2, s2⟩, hs2⟩ := named (sFeed s1 T)
    have hs1L : s1.L.length ≤ 200 := by
      have h := sFeed_len (sNew n) F
      rw [← hs1.out] at h
      simp [sNew] at h; omega
    have hs2L : s2.L.length ≤ 400 := by
      have h := sFeed_len s1 T
      rw [← hs2.out] at h
      simp at h; omega
    have hlag := feed_lag (s := s1) (l := T) hri.out.symm
    rw [← hs2.out] at hlag
    obtain ⟨l1, l2, l3⟩ := hlag
    simp only at l1 l2 l3
    subst l2
    have HL1 := hid l1
    have HL3 := hid l3
    clear c2 c3 c4 hc hS l1 l3
    go_upto_region 6 with (go_at_call 11; refine (feed_calls w p g rl _ (sNew n) vf F _ HC.out hS5.out HVF.out hokF.out (by simp [sNew]; omega) n1 e1 s1 hs1).mono ?_; rintro e w6 ⟨rfl, lv6, hI6⟩)
    have HC6 := hid (hI6.out.chg0 hS5.out HC.out)
    go_upto_region 7 with (go_at_call 22; refine (lag_calls w p g rl lv6 s1 vt T _ hI6.out.at_ (by omega) (HVT.out.mono HC6.out) (by omega) n2 HL1).mono ?_; rintro e w7 ⟨rfl, c7⟩)
    have HC7 := hid (HC6.out.trans' c7)
    have hS7 := hid (hI6.out.at_.keep0 c7)
    clear c7
    go_upto_region 8 with (go_at_call 11; refine (feed_calls w p g rl lv6 s1 vt T _ HC7.out hS7.out HVT.out hokT.out (by omega) n2 0 s2 hs2).mono ?_; rintro e w8 ⟨rfl, lv8, hI8⟩)
    have HC8 := hid (hI8.out.chg0 hS7.out HC7.out)
    go_wp2_with (go_at_call 22; refine (lag_calls w p g rl lv8 s2 vt T _ hI8.out.at_ (by omega) (HVT.out.mono HC8.out) (by omega) 0 (hid HL3.out.symm)).mono ?_; rintro e w9 ⟨rfl, c9⟩)
    go_ret
    exact ⟨by simp, HC8.out.trans' c9⟩
  · have hcs : f1 = false ∨ (f1 = true ∧ f2 = false) ∨ (f1 = true ∧ f2 = true ∧ ri = false) := by
      cases f1 <;> cases f2 <;> cases ri <;> simp_all
    clear hall
    rcases hcs with rfl | ⟨rfl, rfl⟩ | ⟨rfl, rfl, rfl⟩
    all_goals
      go_upto_region 4 with (first
        | (go_at_call 8; refine (awake _).mono ?_; rintro e w2 ⟨rfl, c2⟩; have HC := hid (hc.out.trans' c2))
        | (go_at_call 9; with_reducible refine (entsFew_calls vf F _ (HVF.out.mono HC.out) _ hf1).mono ?_; rintro e w3 ⟨rfl, c3⟩; have HC := hid (HC.out.trans' c3))
        | (go_at_call 9; with_reducible refine (entsFew_calls vt T _ (HVT.out.mono HC.out) _ hf2).mono ?_; rintro e w4 ⟨rfl, c4⟩; have HC := hid (HC.out.trans' c4))
        | (go_at_call 23; refine (rises_calls vt T _ (HVT.out.mono HC.out) _ hri).mono ?_; rintro e w5 ⟨rfl, q9, rfl⟩; have HC := hid (HC.out.drewN q9)))
      go_wp2_with (go_at_call 8; refine (awake _).mono ?_; rintro e w8 ⟨rfl, c8⟩)
      go_ret
      exact ⟨rfl, HC.out.trans' c8⟩
end Go.Proofs.Ytekjchphlphecaa
